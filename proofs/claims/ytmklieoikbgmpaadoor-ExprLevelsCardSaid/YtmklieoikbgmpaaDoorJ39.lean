/- The program's reader of expressions: an operand, each level: joined. The program's reader of expressions: an expression out of tokens: the walk. -/
import Derived.Test.YtmklieoikbgmpaaDoorJ22
import Derived.Test.YtmklieoikbgmpaaDoorJ23
import Derived.Test.YtmklieoikbgmpaaDoorJ24
import Derived.Test.YtmklieoikbgmpaaDoorJ25
import Derived.Test.YtmklieoikbgmpaaDoorJ26
import Derived.Test.YtmklieoikbgmpaaDoorJ27
import Derived.Test.YtmklieoikbgmpaaDoorJ28
import Derived.Test.YtmklieoikbgmpaaDoorJ29
import Derived.Test.YtmklieoikbgmpaaDoorJ30
import Derived.Test.YtmklieoikbgmpaaDoorJ31
import Derived.Test.YtmklieoikbgmpaaDoorJ32
import Derived.Test.YtmklieoikbgmpaaDoorJ33
import Derived.Test.YtmklieoikbgmpaaDoorJ34
import Derived.Test.YtmklieoikbgmpaaDoorJ35
import Derived.Test.YtmklieoikbgmpaaDoorJ36
import Derived.Test.YtmklieoikbgmpaaDoorJ37
import Derived.Test.YtmklieoikbgmpaaDoorJ38
set_option linter.unusedVariables false
set_option linter.unusedSimpArgs false
namespace Go.Proofs.YtmklieoikbgmpaaDoor
open Go.RowKit Go.Shelf Tx Px
section
variable {L : List Tok} {a : Option Addr} {cc rb lb pb : Nat} {w0 : World} {ms : Nat → Nat}
theorem operand_any (EX : Hid (EnvX w0 rb a cc L lb pb ms)) (f : Nat) (IH : Hid (∀ g, g < f → BnOk w0 rb a cc L lb pb g ∧ OnOk w0 rb a cc L lb pb g)) (I o : Nat) (r : Res) (w : World) (hI : I ≤ L.length) (hP : P L f (.bin 8) I o = some r) (hB : Al rb w0 w) (hR : RE rb a cc L lb pb w I o 0 0) :
    Calls Tryd.prog 44 #[.pointer (some ⟨rb, 0, none⟩)] w (RPost (RE rb a cc L lb pb) rb o w r) := by
  obtain ⟨g, rfl, hcs⟩ := top_cases hP
  rcases operand_cases hcs with ⟨h1, h2⟩ | ⟨h1, h2, h3⟩ | ⟨ho, x, hx, hc⟩
  · exact operand_early EX I o r w hI (Or.inl ⟨h1, h2⟩) hB hR
  · exact operand_early EX I o r w hI (Or.inr ⟨h1, h2, h3⟩) hB hR
  rcases hc with ⟨hk, hP⟩ | ⟨hk, hP⟩ | ⟨hk, hP⟩ | ⟨hk, hP⟩
  · exact operand_num EX g IH I o x r w hx ho hk hP hB hR
  · unfold namedS at hP
    cases hl : isT L (I + 1) tLpar with
    | false => rw [hl] at hP; exact operand_nameleaf EX g IH I o x r w hx ho hk hl hP hB hR
    | true =>
      rw [hl, if_pos rfl] at hP
      cases ha : isT L (I + 2) tRpar with
      | true => rw [ha, if_pos rfl] at hP; exact operand_namecallnone EX g IH I o x r w hx ho hk hl ha (one_some hP) hB hR
      | false =>
        rw [ha, if_neg (by decide)] at hP
        unfold callS at hP
        split at hP
        · cases hP
        · rename_i e he
          obtain ⟨c, p⟩ := e
          exact operand_namecallerr EX g IH I o x r w hx ho hk c p hl ha he (Option.some.inj hP).symm hB hR
        · rename_i ls j he
          exact operand_namecallok EX g IH I o x r w hx ho hk ls j hl ha he (one_some hP) hB hR
  · rcases sign_cases hP with ⟨hq, hP⟩ | ⟨op, hq, h25, hP⟩ | ⟨hs, hP⟩ | ⟨hs, hP⟩ | ⟨hs, hP⟩ | ⟨hs, hP⟩ | ⟨hq, hs, hP⟩
    · unfold withinS at hP
      split at hP
      · rename_i u hu
        split at hP
        · rename_i hun
          rcases thenE_some hP with ⟨⟨c, p⟩, h1, h2⟩ | ⟨F, j, h1, h2⟩
          · exact operand_withinerr EX g IH I o x r w hx ho hk c p hq u hu hun h1 h2 hB hR
          · exact operand_withinok EX g IH I o x r w hx ho hk F j hq u hu hun h1 (one_some h2) hB hR
        · rename_i hun
          exact operand_withinbad EX g IH I o x r w hx ho hk hq (fun u' hu' => by rw [hu] at hu'; cases hu'; exact hun) (Option.some.inj hP).symm hB hR
      · rename_i hu
        exact operand_withinbad EX g IH I o x r w hx ho hk hq (fun u' hu' => by rw [hu] at hu'; cases hu') (Option.some.inj hP).symm hB hR
    · rcases thenE_some hP with ⟨⟨c, p⟩, h1, h2⟩ | ⟨F, j, h1, h2⟩
      · exact operand_preerr EX g IH I o x r w hx ho hk op c p hq h25 h1 h2 hB hR
      · exact operand_preok EX g IH I o x r w hx ho hk op F j hq h25 h1 (one_some h2) hB hR
    · exact operand_true EX g IH I o x r w hx ho hk hs hP hB hR
    · exact operand_false EX g IH I o x r w hx ho hk hs hP hB hR
    · exact operand_par EX g IH I o x r w hx ho hk hs hP hB hR
    · unfold choiceS at hP
      rcases thenE_some hP with ⟨⟨c, p⟩, h1, h2⟩ | ⟨F, j, h1, h2⟩
      · exact operand_ife1 EX g IH I o x r w hx ho hk c p hs h1 h2 hB hR
      unfold needT at h2
      cases hn : isT L j tThen with
      | false => rw [hn, if_neg (by decide)] at h2; exact operand_ifn1 EX g IH I o x r w hx ho hk F j hs h1 hn (Option.some.inj h2).symm hB hR
      | true =>
        rw [hn, if_pos rfl] at h2
        rcases thenE_some h2 with ⟨⟨c, p⟩, k1, k2⟩ | ⟨G, j2, k1, k2⟩
        · exact operand_ife2 EX g IH I o x r w hx ho hk F j c p hs h1 hn k1 k2 hB hR
        cases hm : isT L j2 tElse with
        | false => rw [hm, if_neg (by decide)] at k2; exact operand_ifn2 EX g IH I o x r w hx ho hk F j G j2 hs h1 hn k1 hm (Option.some.inj k2).symm hB hR
        | true =>
          rw [hm, if_pos rfl] at k2
          rcases thenE_some k2 with ⟨⟨c, p⟩, l1, l2⟩ | ⟨H, j3, l1, l2⟩
          · exact operand_ife3 EX g IH I o x r w hx ho hk F j G j2 c p hs h1 hn k1 hm l1 l2 hB hR
          · exact operand_ifok EX g IH I o x r w hx ho hk F j G j2 H j3 hs h1 hn k1 hm l1 (one_some l2) hB hR
    · exact operand_none EX g IH I o x r w hx ho hk hq hs hP hB hR
  · exact operand_other EX g IH I o x r w hx ho hk hP hB hR
set_option maxRecDepth 100000 in
theorem binary_eight (I o : Nat) (r : Res) (w : World) (hop : Calls Tryd.prog 44 #[.pointer (some ⟨rb, 0, none⟩)] w (RPost (RE rb a cc L lb pb) rb o w r)) (hR : RE rb a cc L lb pb w I o 0 0) :
    Calls Tryd.prog 32 #[.pointer (some ⟨rb, 0, none⟩), .int .i64 8] w (RPost (RE rb a cc L lb pb) rb o w r) := by
  obtain ⟨c0, c1, c2, c3, c4, c5, c6⟩ := hR.cells
  have HX : Hid (∀ e w', RPost (RE rb a cc L lb pb) rb o w r e w' → ∃ x n k, e = .returned (.slice x n k)) := by
    intro e w' ⟨_, h⟩
    match r, h with
    | .error _, ⟨x, n, k, _, h, _⟩ => exact ⟨x, n, k, h⟩
    | .ok _, ⟨F, v, _, h, ho, _⟩ => obtain ⟨x, k, rfl, _⟩ := ho.form; exact ⟨x, _, k, h⟩
  clear hR
  go_enter Tryd.func32, Tryd.ntmps32
  go_wp2_with fail
  refine hop.mono ?_
  intro e w1 hpost
  obtain ⟨x, n, k, rfl⟩ := HX.out e w1 hpost
  have HP := Lib.hid hpost
  clear hop hpost HX
  go_wp2_with fail
  go_ret
  exact HP.out
theorem both_all (EX : Hid (EnvX w0 rb a cc L lb pb ms)) (f : Nat) : BnOk w0 rb a cc L lb pb f ∧ OnOk w0 rb a cc L lb pb f := by
  induction f using Nat.strongRecOn with
  | ind f ih =>
    have IH : Hid (∀ g, g < f → BnOk w0 rb a cc L lb pb g ∧ OnOk w0 rb a cc L lb pb g) := ih
    have IHB : Hid (∀ g, g < f → BnOk w0 rb a cc L lb pb g) := fun g hg => (ih g hg).1
    have hon : OnOk w0 rb a cc L lb pb f := fun I o r w hI hP hB hR => operand_any EX f IH I o r w hI hP hB hR
    refine ⟨fun n I o r w hn hI hP hB hR => ?_, hon⟩
    by_cases h8 : n < 8
    · exact binary_any EX f IHB n I o h8 r w hI hP hB hR
    · obtain rfl : n = 8 := by omega
      exact binary_eight I o r w (hon I o r w hI hP hB hR) hR
end
end Go.Proofs.YtmklieoikbgmpaaDoor
namespace Go.Proofs.YtmklieoikbgmpaaDoor
open Go.RowKit Go.Shelf Tx Px
set_option maxRecDepth 100000 in
set_option maxHeartbeats 8000000 in
theorem pParse_any (L : List Tok) (hL : L.length ≤ 100000) (hok : ∀ t ∈ L, TokOk t) (v : Value) (from_ : Nat) (hf : from_ ≤ L.length) (r : Except (Int × Int) (Fo × Nat)) (w : World) (hv : Sl tokC 3 w v L) (hr : ParR L from_ r) :
    Calls Tryd.prog 8 #[v, .int .i64 from_] w (ParPost L from_ w r) := by
  obtain ⟨a, cc, rfl, hcc, -⟩ := hv.form
  obtain ⟨f, hf2⟩ := hr
  have C1 := Blk.new w #[.int .i64 0, .int .i64 0] 29
  have hba : Below w.heap.size w (w.alloc (.cells #[.int .i64 0, .int .i64 0] 29)) := (Below.refl _ _).alloc (Nat.le_refl _) _
  have hlv := levels_any (w.alloc (.cells #[.int .i64 0, .int .i64 0] 29))
  have HV := Lib.hid hv
  have HBA := Lib.hid hba
  have HC0 := Lib.hid C1
  have hlt : ¬ ((from_ : Int) < 0) := by omega
  have hgt : ¬ ((L.length : Int) < (from_ : Int)) := by omega
  have HF2 := Lib.hid hf2
  clear hv hba C1
  obtain ⟨r1, hr1⟩ : ∃ r1, P L f (.bin 0) from_ 0 = some r1 := by
    unfold parse at hf2
    cases h : P L f (.bin 0) from_ 0 with
    | none => rw [h] at hf2; cases hf2
    | some q => exact ⟨q, rfl⟩
  have HR1 := Lib.hid hr1
  clear hf2 hr1
  go_enter Tryd.func8, Tryd.ntmps8
  go_wp2_with fail
  refine hlv.mono ?_
  rintro e u1 ⟨lb, ms, rfl, hlb, hLv, hb1⟩
  have hpx := prefixes_any u1
  have HLV := Lib.hid hLv
  have HB1 := Lib.hid hb1
  clear hlv hLv hb1 hlb
  go_wp2_with fail
  refine hpx.mono ?_
  rintro e u2 ⟨pb, rfl, hpb, hPm, hb2⟩
  have HLV2 : Hid (LvAt lb ms u2) := HLV.out.fr (S := fun _ => False) (Fr.of_below hb2 _) (fun _ _ h => h)
  have HPM := Lib.hid hPm
  have HB2 : Hid (Below w.heap.size w u2) := below_next HBA.out (below_next HB1.out hb2)
  have HC2 := Lib.hid ((HC0.out.below HB1.out).below hb2)
  clear hpx hPm hb2 hpb
  obtain ⟨rb, hrb⟩ : ∃ rb, rb = u2.heap.size := ⟨_, rfl⟩
  obtain ⟨W0, hW0⟩ : ∃ W0, W0 = u2.alloc (.cells #[.slice a L.length cc, .int .i64 from_, .int .i64 0, .int .i64 0, .int .i64 0, .slice (some ⟨lb, 0, none⟩) 8 8, .map (some pb)] 55) := ⟨_, rfl⟩
  have hb3 : Below u2.heap.size u2 W0 := by rw [hW0]; exact (Below.refl _ _).alloc (Nat.le_refl _) _
  have hR0 : RE rb a cc L lb pb W0 from_ ((0 : Nat) : Int) 0 0 := by show Re _ _ _ _ _ _ _ _ _; rw [hW0, hrb]; exact Blk.new u2 _ _
  have hrb1 : w.heap.size + 1 ≤ rb := by
    have h1 := HC2.out.lt
    omega
  have HRB := Lib.hid hrb1
  have HB0 : Hid (Below w.heap.size w W0) := below_next HB2.out hb3
  have EV0 : Hid (EnvOk W0 rb a cc L) := Lib.hid (tok_at HV.out hL hok HB0.out (rb := rb) (by omega))
  have HC1 : Hid (Blk W0 w.heap.size #[.int .i64 0, .int .i64 0] 29) := HC2.out.below hb3
  have hfr : ∀ W, Al rb W0 W → Fr (fun k => k = rb) u2 W := fun W hW => Fr.trans (Fr.of_below hb3 _) hW (fun _ _ q => q)
  have EX : Hid (EnvX W0 rb a cc L lb pb ms) := ⟨EV0.out, fun W hW => HLV2.out.fr (hfr W hW) (fun k hk e => by omega), fun W hW => HPM.out.of_block ((hfr W hW).block pb HPM.out.lt (fun e => by have := HPM.out.lt; omega))⟩
  have hcall := whole_any (both_all EX f).1 from_ 0 r1 W0 hf HR1.out (Al.refl _ _) hR0
  have hAt : Hid (∀ W, Al rb W0 W → Calls Tryd.prog 6 #[.slice a L.length cc, .int .i64 from_] W fun e w' => e = .returned (.int .i64 (atP L from_)) ∧ w' = W) := fun W h => eAt_any EV0 from_ (by omega) W h
  obtain ⟨fb, hfb⟩ : ∃ fb, fb = w.heap.size := ⟨_, rfl⟩
  have HFB := Lib.hid hfb
  have HW0 := Lib.hid hW0
  have HRBE := Lib.hid hrb
  clear hb3 hR0 hW0 hfr hfb hrb hrb1
  go_wp2_with fail
  rw [← HRBE.out, ← HW0.out]
  clear HW0 HRBE HC2 HB2 HPM HLV2 HB1 HLV HC0 HBA
  refine hcall.mono ?_
  rintro e w1 ⟨hA, hpost⟩
  have HA : Hid (Al rb W0 w1) := hA
  have hB1 : Below w.heap.size w w1 := hA.keeps HB0.out HB0.out.size (by have := HRB.out; omega)
  have k1 := hA.blk HC1.out (by have := HRB.out; omega)
  have HB1 := Lib.hid hB1
  obtain ⟨k1c0, k1c1, k1f0, k1f1⟩ := two_cells k1
  have HK1 := Lib.hid k1
  clear hcall hA hB1
  match r1, hpost with
  | .error (c, p), ⟨y, yn, yk, i3, he, hc, hi3, hR4⟩ =>
    subst he
    have HRE : Hid (r = .error (c, p)) := by
      have h := HF2.out
      unfold parse at h; rw [HR1.out] at h
      exact (Option.some.inj h).symm
    obtain ⟨c0, c1, c2, c3, c4, c5, c6⟩ := hR4.cells
    have hok1 := eok_any (i3 : Nat) ((0 : Nat) : Int) c p _ w1 hR4
    rw [decide_eq_false hc] at hok1
    clear hR4 hpost
    have HS : Hid (Below w.heap.size w ((w1.drew.setCell ⟨w.heap.size, 0, none⟩ (.int .i64 c)).setCell ⟨w.heap.size, 1, none⟩ (.int .i64 p))) := (HB1.out.drew.setCell (Nat.le_refl _) _).setCell (Nat.le_refl _) _
    go_wp2_with fail
    refine hok1.mono ?_
    rintro e w3 ⟨rfl, rfl⟩
    clear hok1
    go_wp2_with fail
    go_region
    all_goals
      go_wp2_with fail
      refine bodyPost_ret (v := .tuple #[.slice none 0 0, .int .i64 0, .agg #[.int .i64 c, .int .i64 p]]) (by simp [results, Tryd.results8, go_sem, k1c0, k1c1]) rfl ?_
      rw [HRE.out]
      exact ⟨HS.out, rfl⟩
  | .ok (l, j), ⟨G, v, hl, he, hO4, hR4⟩ =>
    subst hl he
    obtain ⟨g1, g2, g3, g4⟩ := (P_ok hok f).bin hf HR1.out
    obtain ⟨ya, yc, rfl, -⟩ := hO4.form
    have hdep := depL_flat g1.wf g1.one
    have HRE : Hid (r = if 5000 < G.size then .error (7, atP L from_) else if 40 < G.depth then .error (6, atP L from_) else .ok (G, j)) := by
      have h := HF2.out
      unfold parse at h; rw [HR1.out] at h
      exact (Option.some.inj h).symm
    obtain ⟨c0, c1, c2, c3, c4, c5, c6⟩ := hR4.cells
    have hlow : ∀ g, (Value.slice ya (G.flat 0).length yc).ownBlock = some g → g ≠ w.heap.size := fun g hg e => by have h1 := (hO4.low g hg).1; have h2 := HC1.out.lt; omega
    have hO4 := hO4.mono HB0.out.size
    have hsz := Fo.flat_len G 0
    rw [hsz] at hO4 hlow ⊢
    have HLOW := Lib.hid hlow
    clear hlow
    have hcat := hAt.out w1 HA.out
    have hok1 := eok_any (j : Nat) ((0 : Nat) : Int) 0 0 _ w1 hR4
    by_cases h1 : 5000 < G.size
    · rw [if_pos h1] at HRE
      have e1 : decide ((5000 : Int) < (G.size : Int)) = true := decide_eq_true (by omega)
      have HS : Hid (Below w.heap.size w ((w1.setCell ⟨w.heap.size, 0, none⟩ (.int .i64 7)).setCell ⟨w.heap.size, 1, none⟩ (.int .i64 (atP L from_)))) := (HB1.out.setCell (Nat.le_refl _) _).setCell (Nat.le_refl _) _
      clear hR4 hpost hdep hO4 g1 g4 hsz
      go_wp2_with fail
      refine hok1.mono ?_
      rintro e w9 ⟨rfl, rfl⟩
      clear hok1
      go_wp2_with fail
      refine hcat.mono ?_
      rintro e w2 ⟨rfl, rfl⟩
      clear hcat
      go_wp2_with fail
      refine bodyPost_ret (v := .tuple #[.slice none 0 0, .int .i64 0, .agg #[.int .i64 7, .int .i64 (atP L from_)]]) (by simp [results, Tryd.results8, go_sem, k1c0, k1c1]) rfl ?_
      rw [HRE.out]
      exact ⟨HS.out, rfl⟩
    · rw [if_neg h1] at HRE
      have e1 : decide ((5000 : Int) < (G.size : Int)) = false := decide_eq_false (by omega)
      have hd := Depth_any (G.flat 0) (.slice ya G.size yc) w1 (by rw [hsz]; omega) hO4.isE
      rw [hdep] at hd
      have HO4 := Lib.hid hO4
      have HR4 := Lib.hid hR4
      by_cases h2 : 40 < G.depth
      · rw [if_pos h2] at HRE
        have e2 : decide ((40 : Int) < (G.depth : Int)) = true := decide_eq_true (by omega)
        clear hR4 hpost hdep hO4 g1 g4 hsz hcat
        go_wp2_with fail
        refine hok1.mono ?_
        rintro e w9 ⟨rfl, rfl⟩
        clear hok1
        go_wp2_with fail
        refine hd.mono ?_
        rintro e w2 ⟨rfl, hb2⟩
        have HA2 := Lib.hid (HA.out.then hb2)
        have hcat := hAt.out w2 HA2.out
        have hk2 := HK1.out.below hb2
        have HB2 := Lib.hid (below_next HB1.out hb2)
        obtain ⟨p0, p1, p2, p3⟩ := two_cells hk2
        have HS : Hid (Below w.heap.size w ((w2.setCell ⟨w.heap.size, 0, none⟩ (.int .i64 6)).setCell ⟨w.heap.size, 1, none⟩ (.int .i64 (atP L from_)))) := (HB2.out.setCell (Nat.le_refl _) _).setCell (Nat.le_refl _) _
        clear hd hb2 hk2 c0 c1 c2 c3 c4 c5 c6 k1 k1c0 k1c1
        go_wp2_with fail
        refine hcat.mono ?_
        rintro e w3 ⟨rfl, rfl⟩
        clear hcat
        go_wp2_with fail
        refine bodyPost_ret (v := .tuple #[.slice none 0 0, .int .i64 0, .agg #[.int .i64 6, .int .i64 (atP L from_)]]) (by simp [results, Tryd.results8, go_sem, p0, p1]) rfl ?_
        rw [HRE.out]
        exact ⟨HS.out, rfl⟩
      · rw [if_neg h2] at HRE
        have e2 : decide ((40 : Int) < (G.depth : Int)) = false := decide_eq_false (by omega)
        clear hR4 hpost hdep hO4 g1 g4 hsz hcat
        go_wp2_with fail
        refine hok1.mono ?_
        rintro e w9 ⟨rfl, rfl⟩
        clear hok1
        go_wp2_with fail
        refine hd.mono ?_
        rintro e w2 ⟨rfl, hb2⟩
        have hk2 := HK1.out.below hb2
        have HB2 := Lib.hid (below_next HB1.out hb2)
        have HO5 := Lib.hid (HO4.out.below hb2)
        obtain ⟨p0, p1, p2, p3⟩ := two_cells hk2
        obtain ⟨q0, q1, q2, q3, q4, q5, q6⟩ := (HR4.out.below hb2).cells
        have HS : Hid (Below w.heap.size w ((w2.drew.setCell ⟨w.heap.size, 0, none⟩ (.int .i64 0)).setCell ⟨w.heap.size, 1, none⟩ (.int .i64 0)) ∧ OwnE w.heap.size ((w2.drew.setCell ⟨w.heap.size, 0, none⟩ (.int .i64 0)).setCell ⟨w.heap.size, 1, none⟩ (.int .i64 0)) (.slice ya G.size yc) (G.flat 0)) :=
          ⟨(HB2.out.drew.setCell (Nat.le_refl _) _).setCell (Nat.le_refl _) _, OwnE.set (OwnE.set (w := w2.drew) HO5.out (fun e => HLOW.out _ e rfl) _ _) (fun e => HLOW.out _ e rfl) _ _⟩
        clear hd hb2 hk2 c0 c1 c2 c3 c4 c5 c6 k1 k1c0 k1c1
        go_wp2_with fail
        go_region
        all_goals
          go_wp2_with fail
          refine bodyPost_ret (v := .tuple #[.slice ya G.size yc, .int .i64 j, .agg #[.int .i64 0, .int .i64 0]]) (by simp [results, Tryd.results8, go_sem, p0, p1]) rfl ?_
          rw [HRE.out]
          exact ⟨HS.out.1, _, rfl, HS.out.2⟩
end Go.Proofs.YtmklieoikbgmpaaDoor
