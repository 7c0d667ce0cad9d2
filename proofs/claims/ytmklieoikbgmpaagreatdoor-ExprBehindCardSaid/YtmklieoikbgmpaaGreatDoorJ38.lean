/- The program's reader of expressions: an operand, each level: joined. The program's reader of expressions: an expression out of tokens: the walk. The program's reader of expressions: an expression out of a text: the walk. From what the rows list to what is known of the program's variables; the frame of a tied row. -/
import Derived.Test.YtmklieoikbgmpaaGreatDoorRows
import Derived.Test.YtmklieoikbgmpaaGreatDoorTie
import Derived.Lib.LaidU8
import Derived.SliceStrings
import Derived.HandedShaped
import Derived.ProofKit
import Derived.OpenShut
import Derived.Lay
import Derived.SevenTiedAt
import Derived.Deep.Slices
import Derived.Test.YtmklieoikbgmpaaGreatDoorJ21
import Derived.Test.YtmklieoikbgmpaaGreatDoorJ22
import Derived.Test.YtmklieoikbgmpaaGreatDoorJ23
import Derived.Test.YtmklieoikbgmpaaGreatDoorJ24
import Derived.Test.YtmklieoikbgmpaaGreatDoorJ25
import Derived.Test.YtmklieoikbgmpaaGreatDoorJ26
import Derived.Test.YtmklieoikbgmpaaGreatDoorJ27
import Derived.Test.YtmklieoikbgmpaaGreatDoorJ28
import Derived.Test.YtmklieoikbgmpaaGreatDoorJ29
import Derived.Test.YtmklieoikbgmpaaGreatDoorJ30
import Derived.Test.YtmklieoikbgmpaaGreatDoorJ31
import Derived.Test.YtmklieoikbgmpaaGreatDoorJ32
import Derived.Test.YtmklieoikbgmpaaGreatDoorJ33
import Derived.Test.YtmklieoikbgmpaaGreatDoorJ34
import Derived.Test.YtmklieoikbgmpaaGreatDoorJ35
import Derived.Test.YtmklieoikbgmpaaGreatDoorJ36
import Derived.Test.YtmklieoikbgmpaaGreatDoorJ37
set_option linter.unusedVariables false
set_option linter.unusedSimpArgs false
namespace Go.Proofs.YtmklieoikbgmpaaGreatDoor
open Go.RowKit Go.Shelf Tx Px
section
variable {L : List Tok} {a : Option Addr} {cc rb lb pb : Nat} {w0 : World} {ms : Nat → Nat}
theorem operand_any (EX : Hid (EnvX w0 rb a cc L lb pb ms)) (f : Nat) (IH : Hid (∀ g, g < f → BnOk w0 rb a cc L lb pb g ∧ OnOk w0 rb a cc L lb pb g)) (I o : Nat) (r : Res) (w : World) (hI : I ≤ L.length) (hP : P L f (.bin 8) I o = some r) (hB : Al rb w0 w) (hR : RE rb a cc L lb pb w I o 0 0) :
    Calls Tryz.prog 84 #[.pointer (some ⟨rb, 0, none⟩)] w (RPost (RE rb a cc L lb pb) rb o w r) := by
  obtain ⟨g, rfl, hcs⟩ := top_cases hP
  rcases operand_cases hcs with ⟨h1, h2⟩ | ⟨h1, h2, h3⟩ | ⟨ho, x, hx, hc⟩
  · exact operand_early EX I o r w hI (Or.inl ⟨h1, h2⟩) hB hR
  · exact operand_early EX I o r w hI (Or.inr ⟨h1, h2, h3⟩) hB hR
  rcases hc with ⟨hk, hP⟩ | ⟨hk, hP⟩ | ⟨hk, hP⟩ | ⟨hk, hP⟩
  · exact operand_num EX g IH I o x r w hx ho hk hP hB hR
  · unfold namedS at hP
    cases hl : isT L (I + 1) tLpar with
    | false => rw [hl] at hP; exact operand_nameleaf EX g IH I o x r w hx ho hk hl hP hB hR
    | true =>
      rw [hl, if_pos rfl] at hP
      cases ha : isT L (I + 2) tRpar with
      | true => rw [ha, if_pos rfl] at hP; exact operand_namecallnone EX g IH I o x r w hx ho hk hl ha (one_some hP) hB hR
      | false =>
        rw [ha, if_neg (by decide)] at hP
        unfold callS at hP
        split at hP
        · cases hP
        · rename_i e he
          obtain ⟨c, p⟩ := e
          exact operand_namecallerr EX g IH I o x r w hx ho hk c p hl ha he (Option.some.inj hP).symm hB hR
        · rename_i ls j he
          exact operand_namecallok EX g IH I o x r w hx ho hk ls j hl ha he (one_some hP) hB hR
  · rcases sign_cases hP with ⟨hq, hP⟩ | ⟨op, hq, h25, hP⟩ | ⟨hs, hP⟩ | ⟨hs, hP⟩ | ⟨hs, hP⟩ | ⟨hs, hP⟩ | ⟨hq, hs, hP⟩
    · unfold withinS at hP
      split at hP
      · rename_i u hu
        split at hP
        · rename_i hun
          rcases thenE_some hP with ⟨⟨c, p⟩, h1, h2⟩ | ⟨F, j, h1, h2⟩
          · exact operand_withinerr EX g IH I o x r w hx ho hk c p hq u hu hun h1 h2 hB hR
          · exact operand_withinok EX g IH I o x r w hx ho hk F j hq u hu hun h1 (one_some h2) hB hR
        · rename_i hun
          exact operand_withinbad EX g IH I o x r w hx ho hk hq (fun u' hu' => by rw [hu] at hu'; cases hu'; exact hun) (Option.some.inj hP).symm hB hR
      · rename_i hu
        exact operand_withinbad EX g IH I o x r w hx ho hk hq (fun u' hu' => by rw [hu] at hu'; cases hu') (Option.some.inj hP).symm hB hR
    · rcases thenE_some hP with ⟨⟨c, p⟩, h1, h2⟩ | ⟨F, j, h1, h2⟩
      · exact operand_preerr EX g IH I o x r w hx ho hk op c p hq h25 h1 h2 hB hR
      · exact operand_preok EX g IH I o x r w hx ho hk op F j hq h25 h1 (one_some h2) hB hR
    · exact operand_true EX g IH I o x r w hx ho hk hs hP hB hR
    · exact operand_false EX g IH I o x r w hx ho hk hs hP hB hR
    · exact operand_par EX g IH I o x r w hx ho hk hs hP hB hR
    · unfold choiceS at hP
      rcases thenE_some hP with ⟨⟨c, p⟩, h1, h2⟩ | ⟨F, j, h1, h2⟩
      · exact operand_ife1 EX g IH I o x r w hx ho hk c p hs h1 h2 hB hR
      unfold needT at h2
      cases hn : isT L j tThen with
      | false => rw [hn, if_neg (by decide)] at h2; exact operand_ifn1 EX g IH I o x r w hx ho hk F j hs h1 hn (Option.some.inj h2).symm hB hR
      | true =>
        rw [hn, if_pos rfl] at h2
        rcases thenE_some h2 with ⟨⟨c, p⟩, k1, k2⟩ | ⟨G, j2, k1, k2⟩
        · exact operand_ife2 EX g IH I o x r w hx ho hk F j c p hs h1 hn k1 k2 hB hR
        cases hm : isT L j2 tElse with
        | false => rw [hm, if_neg (by decide)] at k2; exact operand_ifn2 EX g IH I o x r w hx ho hk F j G j2 hs h1 hn k1 hm (Option.some.inj k2).symm hB hR
        | true =>
          rw [hm, if_pos rfl] at k2
          rcases thenE_some k2 with ⟨⟨c, p⟩, l1, l2⟩ | ⟨H, j3, l1, l2⟩
          · exact operand_ife3 EX g IH I o x r w hx ho hk F j G j2 c p hs h1 hn k1 hm l1 l2 hB hR
          · exact operand_ifok EX g IH I o x r w hx ho hk F j G j2 H j3 hs h1 hn k1 hm l1 (one_some l2) hB hR
    · exact operand_none EX g IH I o x r w hx ho hk hq hs hP hB hR
  · exact operand_other EX g IH I o x r w hx ho hk hP hB hR
set_option maxRecDepth 100000 in
theorem binary_eight (I o : Nat) (r : Res) (w : World) (hop : Calls Tryz.prog 84 #[.pointer (some ⟨rb, 0, none⟩)] w (RPost (RE rb a cc L lb pb) rb o w r)) (hR : RE rb a cc L lb pb w I o 0 0) :
    Calls Tryz.prog 57 #[.pointer (some ⟨rb, 0, none⟩), .int .i64 8] w (RPost (RE rb a cc L lb pb) rb o w r) := by
  obtain ⟨c0, c1, c2, c3, c4, c5, c6⟩ := hR.cells
  have HX : Hid (∀ e w', RPost (RE rb a cc L lb pb) rb o w r e w' → ∃ x n k, e = .returned (.slice x n k)) := by
    intro e w' ⟨_, h⟩
    match r, h with
    | .error _, ⟨x, n, k, _, h, _⟩ => exact ⟨x, n, k, h⟩
    | .ok _, ⟨F, v, _, h, ho, _⟩ => obtain ⟨x, k, rfl, _⟩ := ho.form; exact ⟨x, _, k, h⟩
  clear hR
  go_enter Tryz.func57, Tryz.ntmps57
  go_wp2_with fail
  refine hop.mono ?_
  intro e w1 hpost
  obtain ⟨x, n, k, rfl⟩ := HX.out e w1 hpost
  have HP := Lib.hid hpost
  clear hop hpost HX
  go_wp2_with fail
  go_ret
  exact HP.out
theorem both_all (EX : Hid (EnvX w0 rb a cc L lb pb ms)) (f : Nat) : BnOk w0 rb a cc L lb pb f ∧ OnOk w0 rb a cc L lb pb f := by
  induction f using Nat.strongRecOn with
  | ind f ih =>
    have IH : Hid (∀ g, g < f → BnOk w0 rb a cc L lb pb g ∧ OnOk w0 rb a cc L lb pb g) := ih
    have IHB : Hid (∀ g, g < f → BnOk w0 rb a cc L lb pb g) := fun g hg => (ih g hg).1
    have hon : OnOk w0 rb a cc L lb pb f := fun I o r w hI hP hB hR => operand_any EX f IH I o r w hI hP hB hR
    refine ⟨fun n I o r w hn hI hP hB hR => ?_, hon⟩
    by_cases h8 : n < 8
    · exact binary_any EX f IHB n I o h8 r w hI hP hB hR
    · obtain rfl : n = 8 := by omega
      exact binary_eight I o r w (hon I o r w hI hP hB hR) hR
end
end Go.Proofs.YtmklieoikbgmpaaGreatDoor
namespace Go.Proofs.YtmklieoikbgmpaaGreatDoor
open Go.RowKit Go.Shelf Tx Px
set_option maxRecDepth 100000 in
set_option maxHeartbeats 8000000 in
theorem pParse_any (L : List Tok) (hL : L.length ≤ 100000) (hok : ∀ t ∈ L, TokOk t) (v : Value) (from_ : Nat) (hf : from_ ≤ L.length) (r : Except (Int × Int) (Fo × Nat)) (w : World) (hv : Sl tokC 3 w v L) (hr : ParR L from_ r) :
    Calls Tryz.prog 17 #[v, .int .i64 from_] w (ParPost L from_ w r) := by
  obtain ⟨a, cc, rfl, hcc, -⟩ := hv.form
  obtain ⟨f, hf2⟩ := hr
  have C1 := Blk.new w #[.int .i64 0, .int .i64 0] 27
  have hba : Below w.heap.size w (w.alloc (.cells #[.int .i64 0, .int .i64 0] 27)) := (Below.refl _ _).alloc (Nat.le_refl _) _
  have hlv := levels_any (w.alloc (.cells #[.int .i64 0, .int .i64 0] 27))
  have HV := Lib.hid hv
  have HBA := Lib.hid hba
  have HC0 := Lib.hid C1
  have hlt : ¬ ((from_ : Int) < 0) := by omega
  have hgt : ¬ ((L.length : Int) < (from_ : Int)) := by omega
  have HF2 := Lib.hid hf2
  clear hv hba C1
  obtain ⟨r1, hr1⟩ : ∃ r1, P L f (.bin 0) from_ 0 = some r1 := by
    unfold parse at hf2
    cases h : P L f (.bin 0) from_ 0 with
    | none => rw [h] at hf2; cases hf2
    | some q => exact ⟨q, rfl⟩
  have HR1 := Lib.hid hr1
  clear hf2 hr1
  go_enter Tryz.func17, Tryz.ntmps17
  go_wp2_with fail
  refine hlv.mono ?_
  rintro e u1 ⟨lb, ms, rfl, hlb, hLv, hb1⟩
  have hpx := prefixes_any u1
  have HLV := Lib.hid hLv
  have HB1 := Lib.hid hb1
  clear hlv hLv hb1 hlb
  go_wp2_with fail
  refine hpx.mono ?_
  rintro e u2 ⟨pb, rfl, hpb, hPm, hb2⟩
  have HLV2 : Hid (LvAt lb ms u2) := HLV.out.fr (S := fun _ => False) (Fr.of_below hb2 _) (fun _ _ h => h)
  have HPM := Lib.hid hPm
  have HB2 : Hid (Below w.heap.size w u2) := below_next HBA.out (below_next HB1.out hb2)
  have HC2 := Lib.hid ((HC0.out.below HB1.out).below hb2)
  clear hpx hPm hb2 hpb
  obtain ⟨rb, hrb⟩ : ∃ rb, rb = u2.heap.size := ⟨_, rfl⟩
  obtain ⟨W0, hW0⟩ : ∃ W0, W0 = u2.alloc (.cells #[.slice a L.length cc, .int .i64 from_, .int .i64 0, .int .i64 0, .int .i64 0, .slice (some ⟨lb, 0, none⟩) 8 8, .map (some pb)] 75) := ⟨_, rfl⟩
  have hb3 : Below u2.heap.size u2 W0 := by rw [hW0]; exact (Below.refl _ _).alloc (Nat.le_refl _) _
  have hR0 : RE rb a cc L lb pb W0 from_ ((0 : Nat) : Int) 0 0 := by show Re _ _ _ _ _ _ _ _ _; rw [hW0, hrb]; exact Blk.new u2 _ _
  have hrb1 : w.heap.size + 1 ≤ rb := by
    have h1 := HC2.out.lt
    omega
  have HRB := Lib.hid hrb1
  have HB0 : Hid (Below w.heap.size w W0) := below_next HB2.out hb3
  have EV0 : Hid (EnvOk W0 rb a cc L) := Lib.hid (tok_at HV.out hL hok HB0.out (rb := rb) (by omega))
  have HC1 : Hid (Blk W0 w.heap.size #[.int .i64 0, .int .i64 0] 27) := HC2.out.below hb3
  have hfr : ∀ W, Al rb W0 W → Fr (fun k => k = rb) u2 W := fun W hW => Fr.trans (Fr.of_below hb3 _) hW (fun _ _ q => q)
  have EX : Hid (EnvX W0 rb a cc L lb pb ms) := ⟨EV0.out, fun W hW => HLV2.out.fr (hfr W hW) (fun k hk e => by omega), fun W hW => HPM.out.of_block ((hfr W hW).block pb HPM.out.lt (fun e => by have := HPM.out.lt; omega))⟩
  have hcall := whole_any (both_all EX f).1 from_ 0 r1 W0 hf HR1.out (Al.refl _ _) hR0
  have hAt : Hid (∀ W, Al rb W0 W → Calls Tryz.prog 23 #[.slice a L.length cc, .int .i64 from_] W fun e w' => e = .returned (.int .i64 (atP L from_)) ∧ w' = W) := fun W h => eAt_any EV0 from_ (by omega) W h
  obtain ⟨fb, hfb⟩ : ∃ fb, fb = w.heap.size := ⟨_, rfl⟩
  have HFB := Lib.hid hfb
  have HW0 := Lib.hid hW0
  have HRBE := Lib.hid hrb
  clear hb3 hR0 hW0 hfr hfb hrb hrb1
  go_wp2_with fail
  rw [← HRBE.out, ← HW0.out]
  clear HW0 HRBE HC2 HB2 HPM HLV2 HB1 HLV HC0 HBA
  refine hcall.mono ?_
  rintro e w1 ⟨hA, hpost⟩
  have HA : Hid (Al rb W0 w1) := hA
  have hB1 : Below w.heap.size w w1 := hA.keeps HB0.out HB0.out.size (by have := HRB.out; omega)
  have k1 := hA.blk HC1.out (by have := HRB.out; omega)
  have HB1 := Lib.hid hB1
  obtain ⟨k1c0, k1c1, k1f0, k1f1⟩ := two_cells k1
  have HK1 := Lib.hid k1
  clear hcall hA hB1
  match r1, hpost with
  | .error (c, p), ⟨y, yn, yk, i3, he, hc, hi3, hR4⟩ =>
    subst he
    have HRE : Hid (r = .error (c, p)) := by
      have h := HF2.out
      unfold parse at h; rw [HR1.out] at h
      exact (Option.some.inj h).symm
    obtain ⟨c0, c1, c2, c3, c4, c5, c6⟩ := hR4.cells
    have hok1 := eok_any (i3 : Nat) ((0 : Nat) : Int) c p _ w1 hR4
    rw [decide_eq_false hc] at hok1
    clear hR4 hpost
    have HS : Hid (Below w.heap.size w ((w1.drew.setCell ⟨w.heap.size, 0, none⟩ (.int .i64 c)).setCell ⟨w.heap.size, 1, none⟩ (.int .i64 p))) := (HB1.out.drew.setCell (Nat.le_refl _) _).setCell (Nat.le_refl _) _
    go_wp2_with fail
    refine hok1.mono ?_
    rintro e w3 ⟨rfl, rfl⟩
    clear hok1
    go_wp2_with fail
    go_region
    all_goals
      go_wp2_with fail
      refine bodyPost_ret (v := .tuple #[.slice none 0 0, .int .i64 0, .agg #[.int .i64 c, .int .i64 p]]) (by simp [results, Tryz.results17, go_sem, k1c0, k1c1]) rfl ?_
      rw [HRE.out]
      exact ⟨HS.out, rfl⟩
  | .ok (l, j), ⟨G, v, hl, he, hO4, hR4⟩ =>
    subst hl he
    obtain ⟨g1, g2, g3, g4⟩ := (P_ok hok f).bin hf HR1.out
    obtain ⟨ya, yc, rfl, -⟩ := hO4.form
    have hdep := depL_flat g1.wf g1.one
    have HRE : Hid (r = if 5000 < G.size then .error (7, atP L from_) else if 40 < G.depth then .error (6, atP L from_) else .ok (G, j)) := by
      have h := HF2.out
      unfold parse at h; rw [HR1.out] at h
      exact (Option.some.inj h).symm
    obtain ⟨c0, c1, c2, c3, c4, c5, c6⟩ := hR4.cells
    have hlow : ∀ g, (Value.slice ya (G.flat 0).length yc).ownBlock = some g → g ≠ w.heap.size := fun g hg e => by have h1 := (hO4.low g hg).1; have h2 := HC1.out.lt; omega
    have hO4 := hO4.mono HB0.out.size
    have hsz := Fo.flat_len G 0
    rw [hsz] at hO4 hlow ⊢
    have HLOW := Lib.hid hlow
    clear hlow
    have hcat := hAt.out w1 HA.out
    have hok1 := eok_any (j : Nat) ((0 : Nat) : Int) 0 0 _ w1 hR4
    by_cases h1 : 5000 < G.size
    · rw [if_pos h1] at HRE
      have e1 : decide ((5000 : Int) < (G.size : Int)) = true := decide_eq_true (by omega)
      have HS : Hid (Below w.heap.size w ((w1.setCell ⟨w.heap.size, 0, none⟩ (.int .i64 7)).setCell ⟨w.heap.size, 1, none⟩ (.int .i64 (atP L from_)))) := (HB1.out.setCell (Nat.le_refl _) _).setCell (Nat.le_refl _) _
      clear hR4 hpost hdep hO4 g1 g4 hsz
      go_wp2_with fail
      refine hok1.mono ?_
      rintro e w9 ⟨rfl, rfl⟩
      clear hok1
      go_wp2_with fail
      refine hcat.mono ?_
      rintro e w2 ⟨rfl, rfl⟩
      clear hcat
      go_wp2_with fail
      refine bodyPost_ret (v := .tuple #[.slice none 0 0, .int .i64 0, .agg #[.int .i64 7, .int .i64 (atP L from_)]]) (by simp [results, Tryz.results17, go_sem, k1c0, k1c1]) rfl ?_
      rw [HRE.out]
      exact ⟨HS.out, rfl⟩
    · rw [if_neg h1] at HRE
      have e1 : decide ((5000 : Int) < (G.size : Int)) = false := decide_eq_false (by omega)
      have hd := Depth_any (G.flat 0) (.slice ya G.size yc) w1 (by rw [hsz]; omega) hO4.isE
      rw [hdep] at hd
      have HO4 := Lib.hid hO4
      have HR4 := Lib.hid hR4
      by_cases h2 : 40 < G.depth
      · rw [if_pos h2] at HRE
        have e2 : decide ((40 : Int) < (G.depth : Int)) = true := decide_eq_true (by omega)
        clear hR4 hpost hdep hO4 g1 g4 hsz hcat
        go_wp2_with fail
        refine hok1.mono ?_
        rintro e w9 ⟨rfl, rfl⟩
        clear hok1
        go_wp2_with fail
        refine hd.mono ?_
        rintro e w2 ⟨rfl, hb2⟩
        have HA2 := Lib.hid (HA.out.then hb2)
        have hcat := hAt.out w2 HA2.out
        have hk2 := HK1.out.below hb2
        have HB2 := Lib.hid (below_next HB1.out hb2)
        obtain ⟨p0, p1, p2, p3⟩ := two_cells hk2
        have HS : Hid (Below w.heap.size w ((w2.setCell ⟨w.heap.size, 0, none⟩ (.int .i64 6)).setCell ⟨w.heap.size, 1, none⟩ (.int .i64 (atP L from_)))) := (HB2.out.setCell (Nat.le_refl _) _).setCell (Nat.le_refl _) _
        clear hd hb2 hk2 c0 c1 c2 c3 c4 c5 c6 k1 k1c0 k1c1
        go_wp2_with fail
        refine hcat.mono ?_
        rintro e w3 ⟨rfl, rfl⟩
        clear hcat
        go_wp2_with fail
        refine bodyPost_ret (v := .tuple #[.slice none 0 0, .int .i64 0, .agg #[.int .i64 6, .int .i64 (atP L from_)]]) (by simp [results, Tryz.results17, go_sem, p0, p1]) rfl ?_
        rw [HRE.out]
        exact ⟨HS.out, rfl⟩
      · rw [if_neg h2] at HRE
        have e2 : decide ((40 : Int) < (G.depth : Int)) = false := decide_eq_false (by omega)
        clear hR4 hpost hdep hO4 g1 g4 hsz hcat
        go_wp2_with fail
        refine hok1.mono ?_
        rintro e w9 ⟨rfl, rfl⟩
        clear hok1
        go_wp2_with fail
        refine hd.mono ?_
        rintro e w2 ⟨rfl, hb2⟩
        have hk2 := HK1.out.below hb2
        have HB2 := Lib.hid (below_next HB1.out hb2)
        have HO5 := Lib.hid (HO4.out.below hb2)
        obtain ⟨p0, p1, p2, p3⟩ := two_cells hk2
        obtain ⟨q0, q1, q2, q3, q4, q5, q6⟩ := (HR4.out.below hb2).cells
        have HS : Hid (Below w.heap.size w ((w2.drew.setCell ⟨w.heap.size, 0, none⟩ (.int .i64 0)).setCell ⟨w.heap.size, 1, none⟩ (.int .i64 0)) ∧ OwnE w.heap.size ((w2.drew.setCell ⟨w.heap.size, 0, none⟩ (.int .i64 0)).setCell ⟨w.heap.size, 1, none⟩ (.int .i64 0)) (.slice ya G.size yc) (G.flat 0)) :=
          ⟨(HB2.out.drew.setCell (Nat.le_refl _) _).setCell (Nat.le_refl _) _, OwnE.set (OwnE.set (w := w2.drew) HO5.out (fun e => HLOW.out _ e rfl) _ _) (fun e => HLOW.out _ e rfl) _ _⟩
        clear hd hb2 hk2 c0 c1 c2 c3 c4 c5 c6 k1 k1c0 k1c1
        go_wp2_with fail
        go_region
        all_goals
          go_wp2_with fail
          refine bodyPost_ret (v := .tuple #[.slice ya G.size yc, .int .i64 j, .agg #[.int .i64 0, .int .i64 0]]) (by simp [results, Tryz.results17, go_sem, p0, p1]) rfl ?_
          rw [HRE.out]
          exact ⟨HS.out.1, _, rfl, HS.out.2⟩
end Go.Proofs.YtmklieoikbgmpaaGreatDoor
namespace Go.Proofs.YtmklieoikbgmpaaGreatDoor
open Go.RowKit Go.Shelf Tx Px
set_option maxRecDepth 100000 in
set_option maxHeartbeats 8000000 in
theorem pRead_any (s : ByteArray) (hs : s.size ≤ 100000) (r : Except (Int × Int) Fo) (hr : RdS s r) (w : World) (G : Gl w) :
    Calls Tryz.prog 12 #[.string s] w (RdPost w r) := by
  have C1 := Blk.new w #[.int .i64 0, .int .i64 0] 27
  have hba : Below w.heap.size w (w.alloc (.cells #[.int .i64 0, .int .i64 0] 27)) := (Below.refl _ _).alloc (Nat.le_refl _) _
  have hlex := Lex_any s hs (w.alloc (.cells #[.int .i64 0, .int .i64 0] 27)) (G.below hba)
  have HR := Lib.hid hr
  have HBA := Lib.hid hba
  have HC1 := Lib.hid C1
  obtain ⟨fa, hfa⟩ : ∃ fa, fa = w.heap.size := ⟨_, rfl⟩
  have HFA := Lib.hid hfa
  clear hr hba C1 G hfa
  go_enter Tryz.func12, Tryz.ntmps12
  go_wp2_with fail
  refine hlex.mono ?_
  rintro e w1 ⟨v, er, at_, rfl, hb1, hcase⟩
  have hk1 := HC1.out.below hb1
  rw [← HFA.out] at hk1 ⊢
  have HK1 := Lib.hid hk1
  have HB1 := Lib.hid (below_next HBA.out hb1)
  have hlt1 := hk1.lt
  obtain ⟨fb, hfb⟩ : ∃ fb, fb = w1.heap.size := ⟨_, rfl⟩
  have hne : fa ≠ fb := by omega
  have hne2 : fb ≠ fa := by omega
  have HFB := Lib.hid hfb
  have hfle : Hid (w.heap.size ≤ fb) := by show _ ≤ _; rw [hfb]; exact HB1.out.size
  have hfla : Hid (w.heap.size ≤ fa) := by show _ ≤ _; rw [HFA.out]; exact Nat.le_refl _
  clear hlex hk1 hfb
  rcases hcase with ⟨rfl, rfl, hl, hown⟩ | ⟨c, m, hc, rfl, rfl, hl, rfl⟩
  · obtain ⟨L, hL⟩ : ∃ L, L = toks s.size (Lx.lexS s.data.toList).1 := ⟨_, rfl⟩
    have hLl := toks_len s
    have hLk := toks_is s
    have HRD : Hid (RdR L r) := by
      have h := HR.out
      unfold RdS at h; rw [hl] at h; rw [hL]; exact h
    rw [← hL] at hown hLl hLk
    have hLlen : (Lx.lexS s.data.toList).1.length = L.length := by rw [hL]; simp [toks]
    rw [hLlen] at hown
    have hsl : Sl tokC 3 w1 v L := Sl.own tokC_len hown rfl
    obtain ⟨x, hx, hrx⟩ := HRD.out
    obtain ⟨ta, tc, rfl, htc, -⟩ := hsl.form
    have nb := (Below.refl w1.heap.size w1).alloc (Nat.le_refl _) (.cells #[.int .i64 0, .int .i64 0] 27)
    have hpar := pParse_any L (by omega) hLk (.slice ta L.length tc) 0 (Nat.zero_le _) x (w1.alloc (.cells #[.int .i64 0, .int .i64 0] 27)) (Sl.below hsl nb) hx
    have hkb : Blk (w1.alloc (.cells #[.int .i64 0, .int .i64 0] 27)) fb #[.int .i64 0, .int .i64 0] 27 := by rw [HFB.out]; exact Blk.new w1 _ _
    have HSL := Lib.hid hsl
    have HNB := Lib.hid nb
    have HKB := Lib.hid hkb
    have HXR : Hid (r = endR L x) := by
      show _ = _
      rw [hrx]; match x with
      | .error e => rfl
      | .ok (F, i) => rfl
    have HXX := Lib.hid (codeOk_of hx)
    clear hown hL hLlen hx hrx hsl nb hkb hLk HR HRD hl HC1 HBA
    go_wp2_with fail
    rw [← HFB.out]
    refine hpar.mono ?_
    rintro e w2 ⟨hb2, hpost⟩
    have hk2 := ((HK1.out.below HNB.out).below hb2)
    have hkb2 := HKB.out.below hb2
    have HB2 : Hid (Below w.heap.size w w2) := below_next (below_next HB1.out HNB.out) hb2
    have HSL2 : Hid (Sl tokC 3 w2 (.slice ta L.length tc) L) := Sl.below (Sl.below HSL.out HNB.out) hb2
    obtain ⟨p0, p1, p2, p3⟩ := two_cells hk2
    obtain ⟨g0, g1, g2, g3⟩ := two_cells hkb2
    have HK2 := Lib.hid hk2
    have HKB2 := Lib.hid hkb2
    have hszb : Hid (fb + 1 ≤ w2.heap.size) := hkb2.lt
    clear hpar hk2 hkb2
    match x, hpost with
    | .error (c, p), he =>
      subst he
      have hc : c ≠ 0 := HXX.out
      have HRE : Hid (r = .error (c, p)) := HXR.out
      have e0 : (c != 0) = true := by simp [hc]
      clear hpost hb2
      go_wp2_with fail
      obtain ⟨V, hV⟩ : ∃ V, V = (w2.setCell ⟨fb, 0, none⟩ (.int .i64 c)).setCell ⟨fb, 1, none⟩ (.int .i64 p) := ⟨_, rfl⟩
      have hVA : Blk V fa #[.int .i64 0, .int .i64 0] 27 := by rw [hV]; exact (HK2.out.other 0 hne _).other 1 hne _
      have hVB : Blk V fb #[.int .i64 c, .int .i64 p] 27 := by
        have h1 := Blk.setAt HKB2.out 0 (.int .i64 c)
        have h2 := Blk.setAt h1 1 (.int .i64 p)
        rw [hV]; simpa using h2
      have HBV : Hid (Below w.heap.size w V) := by show Below _ _ _; rw [hV]; exact (HB2.out.setCell hfle.out _).setCell hfle.out _
      rw [← hV]
      clear hV p0 p1 p2 p3 g0 g1 g2 g3
      obtain ⟨p0, p1, p2, p3⟩ := two_cells hVA
      obtain ⟨g0, g1, g2, g3⟩ := two_cells hVB
      have HS : Hid (Below w.heap.size w ((V.drew.setCell ⟨fa, 0, none⟩ (.int .i64 c)).setCell ⟨fa, 1, none⟩ (.int .i64 p))) := (HBV.out.drew.setCell hfla.out _).setCell hfla.out _
      clear hVA hVB
      go_region
      all_goals
        go_wp2_with fail
        refine bodyPost_ret (v := .tuple #[.slice none 0 0, .agg #[.int .i64 c, .int .i64 p]]) (by simp [results, Tryz.results12, go_sem, p0, p1]) rfl ?_
        rw [HRE.out]
        exact ⟨HS.out, hc, rfl⟩
    | .ok (F, i), ⟨v2, he, hO⟩ =>
      cases he
      obtain ⟨ya, yc, rfl, -⟩ := hO.form
      rw [Fo.flat_len] at hO ⊢
      have hlow : ∀ g, (Value.slice ya F.size yc).ownBlock = some g → g ≠ fa ∧ g ≠ fb := fun g hg => by have h1 := (hO.low g hg).1; have h2 := HKB.out.lt; have h3 := HFB.out; have h4 := HK1.out.lt; omega
      have HLOW := Lib.hid hlow
      have HO := Lib.hid (hO.mono (b2 := w.heap.size) (by have := HNB.out.size; have := HB1.out.size; omega))
      obtain ⟨V, hV⟩ : ∃ V, V = (w2.setCell ⟨fb, 0, none⟩ (.int .i64 0)).setCell ⟨fb, 1, none⟩ (.int .i64 0) := ⟨_, rfl⟩
      have hVA : Blk V fa #[.int .i64 0, .int .i64 0] 27 := by rw [hV]; exact (HK2.out.other 0 hne _).other 1 hne _
      have HBV : Hid (Below w.heap.size w V) := by show Below _ _ _; rw [hV]; exact (HB2.out.setCell hfle.out _).setCell hfle.out _
      have HOV : Hid (OwnE w.heap.size V (.slice ya F.size yc) (F.flat 0)) := by
        show OwnE _ _ _ _; rw [hV]; exact OwnE.set (OwnE.set HO.out (fun e => (HLOW.out _ e).2 rfl) _ _) (fun e => (HLOW.out _ e).2 rfl) _ _
      have HVW : Hid (∀ (b q : Nat), b < fb → V.cell? ⟨b, q, none⟩ = w2.cell? ⟨b, q, none⟩) := fun b q h => by
        rw [hV, World.cell?_setCell_other (h := fun e => by cases e; omega), World.cell?_setCell_other (h := fun e => by cases e; omega)]
      have HV := Lib.hid hV
      obtain ⟨u0, u1, u2, u3⟩ := two_cells hVA
      clear hV hVA
      by_cases hil : i < L.length
      · obtain ⟨t, ht⟩ : ∃ t, L[i]? = some t := ⟨_, List.getElem?_eq_getElem hil⟩
        have HRE : Hid (r = .error (5, (t.p : Int))) := by
          have h := HXR.out
          unfold endR at h; simp only [if_pos hil, atP_lt ht] at h; exact h
        obtain ⟨ta', tc', h4, -, hcell⟩ := HSL.out.form
        cases h4
        obtain ⟨b, q, rfl, hj⟩ := hcell w1 (Below.refl _ _) i t ht
        have d1 := hj 2 _ rfl
        have hbl : b < w1.heap.size := World.block_lt_of_cell? w1 _ d1
        have d2 : V.cell? ⟨b, q + i * 3 + 2, none⟩ = some (.int .i64 t.p) := by
          rw [HVW.out b _ (by rw [HFB.out]; exact hbl)]
          exact ((hb2.cell (p := ⟨b, q + i * 3 + 2, none⟩) (Nat.lt_of_lt_of_le hbl HNB.out.size)).trans (HNB.out.cell (p := ⟨b, q + i * 3 + 2, none⟩) hbl)).trans d1
        have hil2 : (i : Int) < (L.length : Int) := by omega
        have hi0 : (0 : Int) ≤ (i : Int) := by omega
        have HS : Hid (Below w.heap.size w ((V.drew.setCell ⟨fa, 0, none⟩ (.int .i64 5)).setCell ⟨fa, 1, none⟩ (.int .i64 t.p))) := (HBV.out.drew.setCell hfla.out _).setCell hfla.out _
        clear hpost hO hlow hcell hj ht hil d1 hb2 hbl
        go_wp2_with fail
        rw [← HV.out]
        clear p0 p1 p2 p3 g0 g1 g2 g3
        go_region
        all_goals
          go_wp2_with fail
          refine bodyPost_ret (v := .tuple #[.slice none 0 0, .agg #[.int .i64 5, .int .i64 t.p]]) (by simp [results, Tryz.results12, go_sem, u0, u1]) rfl ?_
          rw [HRE.out]
          exact ⟨HS.out, by decide, rfl⟩
      · have HRE : Hid (r = .ok F) := by
          have h := HXR.out
          unfold endR at h; simp only [if_neg hil] at h; exact h
        have hil2 : ¬ (i : Int) < (L.length : Int) := by omega
        have HS : Hid (Below w.heap.size w ((V.setCell ⟨fa, 0, none⟩ (.int .i64 0)).setCell ⟨fa, 1, none⟩ (.int .i64 0)) ∧ OwnE w.heap.size ((V.setCell ⟨fa, 0, none⟩ (.int .i64 0)).setCell ⟨fa, 1, none⟩ (.int .i64 0)) (.slice ya F.size yc) (F.flat 0)) :=
          ⟨(HBV.out.setCell hfla.out _).setCell hfla.out _, OwnE.set (OwnE.set HOV.out (fun e => (HLOW.out _ e).1 rfl) _ _) (fun e => (HLOW.out _ e).1 rfl) _ _⟩
        have HU := Lib.hid (And.intro u0 u1)
        clear hpost hO hlow hil hb2
        go_wp2_with fail
        rw [← HV.out]
        refine bodyPost_ret (v := .tuple #[.slice ya F.size yc, .agg #[.int .i64 0, .int .i64 0]]) (by simp [results, Tryz.results12, go_sem, u0, u1]) rfl ?_
        rw [HRE.out]
        exact ⟨HS.out.1, _, rfl, HS.out.2⟩
  · have HRE : Hid (r = .error ((c : Int), ((s.size - m : Nat) : Int))) := by
      have h := HR.out
      unfold RdS at h; rw [hl] at h; exact h
    have hc' : (c : Int) ≠ 0 := by omega
    have e0 : ((c : Int) != 0) = true := by simp [hc]
    obtain ⟨pm, hpm⟩ : ∃ pm, pm = s.size - m := ⟨_, rfl⟩
    rw [← hpm] at HRE ⊢
    obtain ⟨V, hV⟩ : ∃ V, V = w1.alloc (.cells #[.int .i64 c, .int .i64 pm] 27) := ⟨_, rfl⟩
    have hbv : Below w1.heap.size w1 V := by rw [hV]; exact (Below.refl _ _).alloc (Nat.le_refl _) _
    have hVA := HK1.out.below hbv
    have hVB : Blk V fb #[.int .i64 c, .int .i64 pm] 27 := by rw [hV, HFB.out]; exact Blk.new w1 _ _
    have HBV : Hid (Below w.heap.size w V) := below_next HB1.out hbv
    obtain ⟨p0, p1, p2, p3⟩ := two_cells hVA
    obtain ⟨g0, g1, g2, g3⟩ := two_cells hVB
    have HS : Hid (Below w.heap.size w ((V.drew.setCell ⟨fa, 0, none⟩ (.int .i64 c)).setCell ⟨fa, 1, none⟩ (.int .i64 pm))) := (HBV.out.drew.setCell hfla.out _).setCell hfla.out _
    have HV := Lib.hid hV
    clear hVA hVB hbv hV hpm hl
    go_wp2_with fail
    rw [← HFB.out, ← HV.out]
    go_region
    all_goals
      go_wp2_with fail
      refine bodyPost_ret (v := .tuple #[.slice none 0 0, .agg #[.int .i64 c, .int .i64 pm]]) (by simp [results, Tryz.results12, go_sem, p0, p1]) rfl ?_
      rw [HRE.out]
      exact ⟨HS.out, hc', rfl⟩
end Go.Proofs.YtmklieoikbgmpaaGreatDoor
namespace Go.Proofs.YtmklieoikbgmpaaGreatDoor
open Go.ChangeShapes Go.WideShapes Go.ChangeAt Go.RowKit Go.Deep
theorem handed_shaped_and {H : Type} {enc : TypeId × Value → H} {a : Assume} {C : Checked} {os : Os} {f : FuncId} {fn : Func} {s : ChangeSpec} {conds : List PathCond} {apart fresh handsOn again : Bool} {X : World → Array Value → Prop}
    (hX : ∀ (w w' : World) (args : Array Value), w.heap = w'.heap → X w args → X w' args)
    (own : ownKnob C.prog.godebug = none) (started : os.Started) (noInit : C.prog.inits.idxOf? f = none) (hfn : C.prog.funcs[f]? = some fn)
    (witness : ∃ (w : World) (tape : Tape) (i : Input), w.os = os ∧ (w.forCall tape i).Shaped C.prog ∧ i.vars = [] ∧ Input.okWide C.prog (w.forCall tape i) .any w.heap.size f i ∧
      ((s.pre enc C.prog fn conds apart (w.forCall tape i).memory i.args ∧ X (w.forCall tape i).memory i.args) ∧ sizedMet enc C.prog fn (OpenSpec.ofChange s) apart (w.forCall tape i).memory i.args) ∧ a.holds C.prog (lone (Frame.enter C.prog f i.args .normal) [] (w.forCall tape i)))
    (contract : ∀ (W : World) (base : Nat) (args : Array Value) (ds gs : List (DataW H)) (before : List MemPlace),
      (∀ (j : Nat) t v, fn.params[j]? = some t → args[j]? = some v → Value.okWide C.prog W .any base t v) →
      DataW.Whole enc C.prog fn.params.toList s.vars apart W args.toList ds gs before → X W args → W.ShapedOpen C.prog →
      Calls C.prog f args W fun e W' => ∃ v, e = .returned v ∧ s.post enc C.prog fn apart fresh handsOn again W args v W') :
    ReturnsInHanded a C os f .any (fun w args => (s.pre enc C.prog fn conds apart w args ∧ X w args) ∧ sizedMet enc C.prog fn (OpenSpec.ofChange s) apart w args) (s.post enc C.prog fn apart fresh handsOn again) := by
  refine returnsInHanded_of_calls own started noInit witness ?_
  intro w tape i _ hsh _ hok hpre _
  obtain ⟨_, _, _, fn', hfn', _, _, _, _, hval⟩ := hok
  obtain rfl : fn' = fn := Option.some.inj (hfn'.symm.trans hfn)
  obtain ⟨⟨⟨ds, gs, before, hw, _⟩, hx⟩, _⟩ := hpre
  refine (contract (w.forCall tape i) w.heap.size i.args ds gs before hval (DataW.Whole.of_heap (w' := w.forCall tape i) (by rfl) hw) (hX _ _ _ (by rfl) hx) hsh).mono fun e W' h => ?_
  obtain ⟨v, he, hp⟩ := h
  subst he
  exact ChangeSpec.post_blind hp
theorem strs_map {H : Type} : ∀ {a : List ByteArray} {l : List (List UInt8)}, (strs a : List (DataW H)) = l.map (fun x => .lit (.string x)) → a.map (fun b => b.data.toList) = l
  | [], [], _ => rfl
  | [], _ :: _, h => by simp [strs] at h
  | _ :: _, [], h => by simp [strs] at h
  | b :: a, x :: l, h => by
    simp [strs] at h
    simp only [List.map_cons, h.1]
    rw [strs_map (H := H) (a := a) (l := l) (by simp [strs]; exact h.2)]
theorem spot_of_cell {w : World} {a : Addr} {v : Value} (h : w.cell? a = some v) : a.spot = none := by
  unfold World.cell? at h
  split at h
  · cases hs : a.spot
    · rfl
    · rw [hs] at h; simp at h
  · simp at h
theorem add_of_spot {a : Addr} (h : a.spot = none) (n : Nat) : a.add n = ⟨a.block, a.off + n, none⟩ := by
  unfold Addr.add
  split
  · subst_vars; cases a; simp_all
  · rfl
theorem strings_var {W : World} {n : String} {g t : Nat} {l : List (List UInt8)} (hr : Lib.VarReads Tryz.prog W n (.slice (l.map fun x => .lit (.string x)) [])) (hg : Tryz.prog.globalNamed n = some g) (ht : (Tryz.prog.globals[g]?).map (·.type) = some t) (hu : Tryz.prog.underlying t = some (.slice 9)) (hl : l ≠ []) :
    ∃ b o c, W.cell? ⟨g, 0, none⟩ = some (.slice (some ⟨b, o, none⟩) l.length c) ∧ ∀ j, j < l.length → W.cell? ⟨b, o + j, none⟩ = some (.string ⟨(l.getD j []).toArray⟩) := by
  obtain ⟨g', t', cs, fuel, p, hg', ht', hv, hd⟩ := hr
  obtain rfl := Option.some.inj (hg.symm.trans hg')
  obtain rfl := Option.some.inj (ht.symm.trans ht')
  rcases open_strings hu Tryz.underlying9 (by kernel_rfl) hd with ⟨_, h⟩ | ⟨a, len, cap, ss, hcs, _, hlc, _, hss, hx, hcell, _⟩
  · cases h
  · have hx1 := congrArg Prod.fst hx
    simp only [DataW.slice.injEq] at hx1
    obtain ⟨h1, h2⟩ := hx1
    have h3 := strs_map h1.symm
    have h4 : ss.drop len = [] := by
      cases hq : ss.drop len with
      | nil => rfl
      | cons x r => rw [hq] at h2; simp [strs] at h2
    have h5 : ss.take len = ss := by
      rw [List.drop_eq_nil_iff] at h4; exact List.take_of_length_le h4
    rw [h5] at h3
    have hlen : len = l.length := by
      have h6 : ss.length ≤ len := by rw [List.drop_eq_nil_iff] at h4; exact h4
      have h7 : ss.length = l.length := by rw [← h3]; simp
      simp at hss; omega
    subst hlen
    have hgv : W.cell? ⟨g, 0, none⟩ = some (.slice (some a) l.length cap) := by
      rw [World.var?_cell hg hv 0]
      have : cs.toList[0]? = some (.slice (some a) l.length cap) := by rw [hcs]; rfl
      simpa using this
    have hl0 : 0 < l.length := List.length_pos_iff.2 hl
    have hsl : ss.length = l.length := by rw [← h3]; simp
    have hs := spot_of_cell (hcell 0 (by omega))
    have hs0 : a.spot = none := by simpa [Addr.add] using hs
    have ha : a = ⟨a.block, a.off, none⟩ := by cases a; simp_all
    refine ⟨a.block, a.off, cap, by rw [← ha]; exact hgv, fun j hj => ?_⟩
    have := hcell j (by omega)
    rw [add_of_spot hs0] at this
    have h8 : (ss.map (fun b => b.data.toList))[j]? = l[j]? := by rw [h3]
    rw [List.getElem?_map] at h8
    have e1 : ss[j]? = some (ss.getD j ByteArray.empty) := by rw [List.getD_eq_getElem?_getD, List.getElem?_eq_getElem (by omega)]; rfl
    have e2 : l[j]? = some (l.getD j []) := by rw [List.getD_eq_getElem?_getD, List.getElem?_eq_getElem hj]; rfl
    rw [e1, e2] at h8
    have h9 : (ss.getD j ByteArray.empty).data.toList = l.getD j [] := Option.some.inj h8
    have h10 : ss.getD j ByteArray.empty = ⟨(l.getD j []).toArray⟩ := bytes_ext h9
    rw [this, h10]
theorem glob_words : Tryz.prog.globalNamed "bailment/lex.words" = some 1 := by kernel_rfl
theorem glob_signs : Tryz.prog.globalNamed "bailment/lex.signs" = some 0 := by kernel_rfl
noncomputable def rowLaid : List (String × DataW Unit) := Rows.exprRoundRow.laid
theorem laid_words : (Rows.laid_bailment_lex_words : DataW Unit) = .slice (Lx.words.map fun x => .lit (.string x)) [] := by kernel_rfl
theorem laid_signs : (Rows.laid_bailment_lex_signs : DataW Unit) = .slice (Lx.signs.map fun x => .lit (.string x)) [] := by kernel_rfl
theorem gl_of {W : World} (hL : laidMetH Tryz.prog rowLaid W) (hs : W.ShapedOpen Tryz.prog) : Gl W := by
  rw [MakeChecks.laidMetH_plain _ _ _ (by kernel_rfl)] at hL
  have r1 : Lib.VarReads Tryz.prog W "bailment/lex.words" Rows.laid_bailment_lex_words := Lib.laidMet.reads hL (by unfold rowLaid Rows.exprRoundRow; simp)
  have r2 : Lib.VarReads Tryz.prog W "bailment/lex.signs" Rows.laid_bailment_lex_signs := Lib.laidMet.reads hL (by unfold rowLaid Rows.exprRoundRow; simp)
  rw [laid_words] at r1
  rw [laid_signs] at r2
  obtain ⟨b, o, c, h1, h2⟩ := strings_var r1 glob_words (by kernel_rfl) Tryz.underlying36 (by decide)
  obtain ⟨b', o', c', h3, h4⟩ := strings_var r2 glob_signs (by kernel_rfl) Tryz.underlying36 (by decide)
  exact ⟨⟨b, o, c, h1, h2⟩, ⟨b', o', c', h3, h4⟩, hs⟩
end Go.Proofs.YtmklieoikbgmpaaGreatDoor
