/- The reference's reader of expressions: behind if: the walk. The reference's reader of expressions: a call's arguments: the walk. The reference's reader of expressions: names and calls, what begins an operand: the walk. -/
import Derived.Test.YtjnpkdpljmkpiaaGreatDoorJ18
import Derived.Test.YtjnpkdpljmkpiaaGreatDoorJ20
namespace Go.Proofs.YtjnpkdpljmkpiaaGreatDoor
open Go.RowKit Go.Shelf Tx Px
theorem needT_two {L : List Tok} {s : ByteArray} {i : Nat} {f : Nat → Option Res} {q : Res} (h : needT L s i f = some q) : (isT L i s = false ∧ q = .error (5, atP L i)) ∨ (isT L i s = true ∧ f (i + 1) = some q) := by
  unfold needT errAt at h
  split at h
  · rename_i h1; exact Or.inr ⟨h1, h⟩
  · rename_i h1; exact Or.inl ⟨by simpa using h1, (Option.some.inj h).symm⟩
theorem thenE_is {q : Option Res} {f : Fo → Nat → Option Res} {r : Res} {a : Fo} {i : Nat} (h : thenE q f = some r) (hq : q = some (.ok ([a], i))) : f a i = some r := by rw [hq] at h; exact h
theorem needT_is {L : List Tok} {s : ByteArray} {i : Nat} {f : Nat → Option Res} {q : Res} (h : needT L s i f = some q) (hs : isT L i s = true) : f (i + 1) = some q := by unfold needT at h; rw [if_pos hs] at h; exact h
section
variable {L : List Tok} {a : Option Addr} {cc rb : Nat} {w0 : World}
theorem r4three (A B C : Fo) (u v z : Value) (w : World) (hu : IsE w u (A.flat 0)) (hv : IsE w v (B.flat 0)) (hz : IsE w z (C.flat 0)) (hA : A.count = 1) (hB : B.count = 1) (hC : C.count = 1) (hs : A.size + B.size + C.size ≤ 400000) :
    Calls Tryz.prog 93 #[.int .i64 26, .int .i64 0, .string ⟨#[]⟩, .slice (some ⟨w.heap.size, 0, none⟩) 3 3] (w.alloc (.cells #[u, v, z] 30)) fun r w' => ∃ v', r = .returned v' ∧ OwnE w.heap.size w' v' ((node 26 0 noS (A.app (B.app C))).flat 0) ∧ Below w.heap.size w w' := by
  have nb := (Below.refl w.heap.size w).alloc (Nat.le_refl _) (.cells #[u, v, z] 30)
  have hj := rJoin_any 26 0 noS [A, B, C] (.slice (some ⟨w.heap.size, 0, none⟩) 3 3) (w.alloc (.cells #[u, v, z] 30))
    (sg_three (Blk.new _ _ _) (Sl.below hu nb) (Sl.below hv nb) (Sl.below hz nb)) (fun F hF => by simp at hF; rcases hF with rfl | rfl | rfl; exact hA; exact hB; exact hC) (by simp [cat, Fo.size_app, Fo.size]; omega) (by omega) (fun _ => by
      rw [kids_leaf, if_pos rfl]; rfl)
  rw [join_three 26 0 A B C (by omega)] at hj
  refine hj.mono ?_
  rintro r w1 ⟨v', rfl, ho, hb⟩
  exact ⟨v', rfl, ho.mono nb.size, nb.trans (hb.mono nb.size)⟩
def choiceS (p : Orc) (L : List Tok) (I o : Nat) : Option Res := thenE (p (.bin 0) I o) fun a i => needT L tThen i fun i => thenE (p (.bin 0) i o) fun b i => needT L tElse i fun i => thenE (p (.bin 0) i o) fun c i => one (node 26 0 noS (a.app (b.app c))) i
set_option maxRecDepth 100000 in
set_option maxHeartbeats 4000000 in
theorem r4choice_any (EV : Hid (EnvOk w0 rb a cc L)) (f : Nat) (IH : Hid (LvOk w0 rb a cc L f)) (I o : Nat) (r : Res) (w : World) (hI : I ≤ L.length) (hP : choiceS (P L f) L I o = some r) (hB : Al rb w0 w) (hR : Rd rb (.slice a L.length cc) w I o 0 0) :
    Calls Tryz.prog 164 #[.pointer (some ⟨rb, 0, none⟩)] w (RPost (Rd rb (.slice a L.length cc)) rb o w r) := by
  have hL := EV.out.len
  have hlt := hR.lt
  obtain ⟨nb, hnb⟩ : ∃ nb, nb = w.heap.size := ⟨_, rfl⟩
  have HNB := Lib.hid hnb
  rw [← hnb] at hlt
  have HB0 := Lib.hid hB
  have HP0 : Hid (choiceS (P L f) L I o = some r) := hP
  have HR0 := Lib.hid hR
  have HA0 : Hid (Al rb w w) := Al.refl _ _
  clear hB hP hR hnb
  go_enter Tryz.func164, Tryz.ntmps164
  obtain ⟨r1, hr⟩ : ∃ q, P L f (.bin 0) I o = some q := by
    rcases thenE_some HP0.out with ⟨e, h, _⟩ | ⟨a, i, h, _⟩
    · exact ⟨_, h⟩
    · exact ⟨_, h⟩
  have HQ1 := Lib.hid hr
  have hcall := IH.out 0 I o r1 w (by omega) (by omega) hr (HB0.out.next HA0.out) HR0.out
  clear hr
  go_wp2_with fail
  refine hcall.mono ?_
  rintro e w1 ⟨hA, hpost⟩
  have HA1 := Lib.hid (HA0.out.next hA)
  have hsz1 : nb ≤ w1.heap.size := by rw [HNB.out]; exact HA1.out.size
  have hsw1 : nb ≤ w.heap.size := by rw [HNB.out]; exact HA0.out.size
  clear hcall hA
  match r1, hpost with
  | .error (c, p), ⟨y, yn, yk, i3, he, hc, hi3, hR4⟩ =>
    subst he
    have HRE : Hid (r = .error (c, p)) := by
      rcases thenE_some HP0.out with ⟨e, h, h2⟩ | ⟨a, i, h, _⟩
      · have h3 := HQ1.out.symm.trans h; cases h3; exact h2
      · have h3 := HQ1.out.symm.trans h; cases h3
    have HRf := Lib.hid hR4
    have HAf := HA1
    clear hR4
    have hf := r4need_fault EV i3 hi3 o c p ⟨#[116, 104, 101, 110]⟩ hc w1 (HB0.out.next HAf.out) HRf.out
    go_wp2_with fail
    refine hf.mono ?_
    rintro e u1 ⟨rfl, hb⟩
    replace HRf := Lib.hid (HRf.out.below hb)
    replace HAf := Lib.hid (HAf.out.then hb)
    clear hf hb
    have hf := r4Arrow_fault EV i3 hi3 o c p hc u1 (HB0.out.next HAf.out) HRf.out
    go_wp2_with fail
    refine hf.mono ?_
    rintro e u2 ⟨rfl, hb⟩
    replace HRf := Lib.hid (HRf.out.below hb)
    replace HAf := Lib.hid (HAf.out.then hb)
    clear hf hb
    have hf := r4need_fault EV i3 hi3 o c p ⟨#[101, 108, 115, 101]⟩ hc u2 (HB0.out.next HAf.out) HRf.out
    go_wp2_with fail
    refine hf.mono ?_
    rintro e u3 ⟨rfl, hb⟩
    replace HRf := Lib.hid (HRf.out.below hb)
    replace HAf := Lib.hid (HAf.out.then hb)
    clear hf hb
    have hf := r4Arrow_fault EV i3 hi3 o c p hc u3 (HB0.out.next HAf.out) HRf.out
    go_wp2_with fail
    refine hf.mono ?_
    rintro e u4 ⟨rfl, hb⟩
    replace HRf := Lib.hid (HRf.out.below hb)
    replace HAf := Lib.hid (HAf.out.then hb)
    clear hf hb
    obtain ⟨c0, c1, c2, c3, c4⟩ := HRf.out.cells
    have e0 : (c != 0) = true := by simp [hc]
    have e00 : (c == 0) = false := by simp [hc]
    go_wp2_with fail
    go_ret
    rw [HRE.out]; exact rpost_err HAf.out hc hi3 HRf.out
  | .ok (l, j1), ⟨F1, v1, hl, he, hO, hR4⟩ =>
    subst hl he
    obtain ⟨k1, k2, hj1, k4⟩ := (P_ok EV.out.ok f).bin (by omega) HQ1.out
    obtain ⟨va1, vc1, rfl, -⟩ := hO.form
    have hlj1 : I ≤ j1 := k2
    have hsz01 : F1.size + 1 ≤ 3 * (j1 - I) := k4
    have HG1 := Lib.hid k1
    have HO1 : Hid (OwnE nb w1 (.slice va1 (F1.flat 0).length vc1) (F1.flat 0)) := hO.mono hsw1
    have HR1 := Lib.hid hR4
    have HP1 := Lib.hid (thenE_is HP0.out HQ1.out)
    clear hR4 hO k1 k2 k4
    rcases hT2 : isT L j1 ⟨#[116, 104, 101, 110]⟩ with _ | _
    · have hn := r4need_no EV j1 (by omega) o 0 ⟨#[116, 104, 101, 110]⟩ hT2 w1 (HB0.out.next HA1.out) HR1.out
      have HRE : Hid (r = .error (5, atP L j1)) := by
        rcases needT_two HP1.out with h | ⟨h, _⟩
        · exact h.2
        · exact absurd (hT2.symm.trans h) (by decide)
      have HT := Lib.hid hT2
      clear hT2
      go_wp2_with fail
      refine hn.mono ?_
      rintro e w2 ⟨rfl, hR4, hA⟩
      have HAf := Lib.hid (HA1.out.next hA)
      obtain ⟨c, p, hc, i3, hi3, hRe, hR5⟩ : ∃ (c p : Int), c ≠ 0 ∧ ∃ i3 : Nat, i3 ≤ 200000 ∧ Hid (r = .error (c, p)) ∧ Rd rb (.slice a L.length cc) w2 i3 o c p := ⟨5, atP L j1, by decide, j1, by omega, HRE, hR4⟩
      have HRf := Lib.hid hR5
      clear hn hR4 hA hR5 HRE
      have HRE := hRe
      have hf := r4Arrow_fault EV i3 hi3 o c p hc w2 (HB0.out.next HAf.out) HRf.out
      go_wp2_with fail
      refine hf.mono ?_
      rintro e u1 ⟨rfl, hb⟩
      replace HRf := Lib.hid (HRf.out.below hb)
      replace HAf := Lib.hid (HAf.out.then hb)
      clear hf hb
      have hf := r4need_fault EV i3 hi3 o c p ⟨#[101, 108, 115, 101]⟩ hc u1 (HB0.out.next HAf.out) HRf.out
      go_wp2_with fail
      refine hf.mono ?_
      rintro e u2 ⟨rfl, hb⟩
      replace HRf := Lib.hid (HRf.out.below hb)
      replace HAf := Lib.hid (HAf.out.then hb)
      clear hf hb
      have hf := r4Arrow_fault EV i3 hi3 o c p hc u2 (HB0.out.next HAf.out) HRf.out
      go_wp2_with fail
      refine hf.mono ?_
      rintro e u3 ⟨rfl, hb⟩
      replace HRf := Lib.hid (HRf.out.below hb)
      replace HAf := Lib.hid (HAf.out.then hb)
      clear hf hb
      obtain ⟨c0, c1, c2, c3, c4⟩ := HRf.out.cells
      have e0 : (c != 0) = true := by simp [hc]
      have e00 : (c == 0) = false := by simp [hc]
      go_wp2_with fail
      go_ret
      rw [HRE.out]; exact rpost_err HAf.out hc hi3 HRf.out
    · have hn := r4need_yes EV j1 (by omega) o 0 ⟨#[116, 104, 101, 110]⟩ hT2 w1 (HB0.out.next HA1.out) HR1.out
      have hlt2 : j1 < L.length := isT_lt hT2
      have HP2 := Lib.hid (needT_is HP1.out hT2)
      clear hT2
      go_wp2_with fail
      refine hn.mono ?_
      rintro e w2 ⟨rfl, hR4, hA⟩
      have HR2 : Hid (Rd rb (.slice a L.length cc) w2 ((j1 + 1 : Nat) : Int) o 0 0) := by show Rd _ _ _ _ _ _ _; simpa using hR4
      have HA2 := Lib.hid (HA1.out.next hA)
      replace HO1 := Lib.hid (hA.ownE HO1.out hlt)
      clear hn hR4 hA
      obtain ⟨r3, hr⟩ : ∃ q, P L f (.bin 0) (j1 + 1) o = some q := by
        rcases thenE_some HP2.out with ⟨e, h, _⟩ | ⟨a, i, h, _⟩
        · exact ⟨_, h⟩
        · exact ⟨_, h⟩
      have HQ3 := Lib.hid hr
      have hcall := IH.out 0 (j1 + 1) o r3 w2 (by omega) (by omega) hr (HB0.out.next HA2.out) HR2.out
      clear hr
      go_wp2_with fail
      refine hcall.mono ?_
      rintro e w3 ⟨hA, hpost⟩
      have HA3 := Lib.hid (HA2.out.next hA)
      replace HO1 := Lib.hid (hA.ownE HO1.out hlt)
      have hsz3 : nb ≤ w3.heap.size := by rw [HNB.out]; exact HA3.out.size
      have hsw3 : nb ≤ w2.heap.size := by rw [HNB.out]; exact HA2.out.size
      clear hcall hA
      match r3, hpost with
      | .error (c, p), ⟨y, yn, yk, i3, he, hc, hi3, hR4⟩ =>
        subst he
        have HRE : Hid (r = .error (c, p)) := by
          rcases thenE_some HP2.out with ⟨e, h, h2⟩ | ⟨a, i, h, _⟩
          · have h3 := HQ3.out.symm.trans h; cases h3; exact h2
          · have h3 := HQ3.out.symm.trans h; cases h3
        have HRf := Lib.hid hR4
        have HAf := HA3
        clear hR4
        have hf := r4need_fault EV i3 hi3 o c p ⟨#[101, 108, 115, 101]⟩ hc w3 (HB0.out.next HAf.out) HRf.out
        go_wp2_with fail
        refine hf.mono ?_
        rintro e u1 ⟨rfl, hb⟩
        replace HRf := Lib.hid (HRf.out.below hb)
        replace HAf := Lib.hid (HAf.out.then hb)
        clear hf hb
        have hf := r4Arrow_fault EV i3 hi3 o c p hc u1 (HB0.out.next HAf.out) HRf.out
        go_wp2_with fail
        refine hf.mono ?_
        rintro e u2 ⟨rfl, hb⟩
        replace HRf := Lib.hid (HRf.out.below hb)
        replace HAf := Lib.hid (HAf.out.then hb)
        clear hf hb
        obtain ⟨c0, c1, c2, c3, c4⟩ := HRf.out.cells
        have e0 : (c != 0) = true := by simp [hc]
        have e00 : (c == 0) = false := by simp [hc]
        go_wp2_with fail
        go_ret
        rw [HRE.out]; exact rpost_err HAf.out hc hi3 HRf.out
      | .ok (l, j3), ⟨F3, v3, hl, he, hO, hR4⟩ =>
        subst hl he
        obtain ⟨k1, k2, hj3, k4⟩ := (P_ok EV.out.ok f).bin (by omega) HQ3.out
        obtain ⟨va3, vc3, rfl, -⟩ := hO.form
        have hlj3 : (j1 + 1) ≤ j3 := k2
        have hsz03 : F3.size + 1 ≤ 3 * (j3 - (j1 + 1)) := k4
        have HG3 := Lib.hid k1
        have HO3 : Hid (OwnE nb w3 (.slice va3 (F3.flat 0).length vc3) (F3.flat 0)) := hO.mono hsw3
        have HR3 := Lib.hid hR4
        have HP3 := Lib.hid (thenE_is HP2.out HQ3.out)
        clear hR4 hO k1 k2 k4
        rcases hT4 : isT L j3 ⟨#[101, 108, 115, 101]⟩ with _ | _
        · have hn := r4need_no EV j3 (by omega) o 0 ⟨#[101, 108, 115, 101]⟩ hT4 w3 (HB0.out.next HA3.out) HR3.out
          have HRE : Hid (r = .error (5, atP L j3)) := by
            rcases needT_two HP3.out with h | ⟨h, _⟩
            · exact h.2
            · exact absurd (hT4.symm.trans h) (by decide)
          have HT := Lib.hid hT4
          clear hT4
          go_wp2_with fail
          refine hn.mono ?_
          rintro e w4 ⟨rfl, hR4, hA⟩
          have HAf := Lib.hid (HA3.out.next hA)
          obtain ⟨c, p, hc, i3, hi3, hRe, hR5⟩ : ∃ (c p : Int), c ≠ 0 ∧ ∃ i3 : Nat, i3 ≤ 200000 ∧ Hid (r = .error (c, p)) ∧ Rd rb (.slice a L.length cc) w4 i3 o c p := ⟨5, atP L j3, by decide, j3, by omega, HRE, hR4⟩
          have HRf := Lib.hid hR5
          clear hn hR4 hA hR5 HRE
          have HRE := hRe
          have hf := r4Arrow_fault EV i3 hi3 o c p hc w4 (HB0.out.next HAf.out) HRf.out
          go_wp2_with fail
          refine hf.mono ?_
          rintro e u1 ⟨rfl, hb⟩
          replace HRf := Lib.hid (HRf.out.below hb)
          replace HAf := Lib.hid (HAf.out.then hb)
          clear hf hb
          obtain ⟨c0, c1, c2, c3, c4⟩ := HRf.out.cells
          have e0 : (c != 0) = true := by simp [hc]
          have e00 : (c == 0) = false := by simp [hc]
          go_wp2_with fail
          go_ret
          rw [HRE.out]; exact rpost_err HAf.out hc hi3 HRf.out
        · have hn := r4need_yes EV j3 (by omega) o 0 ⟨#[101, 108, 115, 101]⟩ hT4 w3 (HB0.out.next HA3.out) HR3.out
          have hlt4 : j3 < L.length := isT_lt hT4
          have HP4 := Lib.hid (needT_is HP3.out hT4)
          clear hT4
          go_wp2_with fail
          refine hn.mono ?_
          rintro e w4 ⟨rfl, hR4, hA⟩
          have HR4 : Hid (Rd rb (.slice a L.length cc) w4 ((j3 + 1 : Nat) : Int) o 0 0) := by show Rd _ _ _ _ _ _ _; simpa using hR4
          have HA4 := Lib.hid (HA3.out.next hA)
          replace HO1 := Lib.hid (hA.ownE HO1.out hlt)
          replace HO3 := Lib.hid (hA.ownE HO3.out hlt)
          clear hn hR4 hA
          obtain ⟨r5, hr⟩ : ∃ q, P L f (.bin 0) (j3 + 1) o = some q := by
            rcases thenE_some HP4.out with ⟨e, h, _⟩ | ⟨a, i, h, _⟩
            · exact ⟨_, h⟩
            · exact ⟨_, h⟩
          have HQ5 := Lib.hid hr
          have hcall := IH.out 0 (j3 + 1) o r5 w4 (by omega) (by omega) hr (HB0.out.next HA4.out) HR4.out
          clear hr
          go_wp2_with fail
          refine hcall.mono ?_
          rintro e w5 ⟨hA, hpost⟩
          have HA5 := Lib.hid (HA4.out.next hA)
          replace HO1 := Lib.hid (hA.ownE HO1.out hlt)
          replace HO3 := Lib.hid (hA.ownE HO3.out hlt)
          have hsz5 : nb ≤ w5.heap.size := by rw [HNB.out]; exact HA5.out.size
          have hsw5 : nb ≤ w4.heap.size := by rw [HNB.out]; exact HA4.out.size
          clear hcall hA
          match r5, hpost with
          | .error (c, p), ⟨y, yn, yk, i3, he, hc, hi3, hR4⟩ =>
            subst he
            have HRE : Hid (r = .error (c, p)) := by
              rcases thenE_some HP4.out with ⟨e, h, h2⟩ | ⟨a, i, h, _⟩
              · have h3 := HQ5.out.symm.trans h; cases h3; exact h2
              · have h3 := HQ5.out.symm.trans h; cases h3
            have HRf := Lib.hid hR4
            have HAf := HA5
            clear hR4
            obtain ⟨c0, c1, c2, c3, c4⟩ := HRf.out.cells
            have e0 : (c != 0) = true := by simp [hc]
            have e00 : (c == 0) = false := by simp [hc]
            go_wp2_with fail
            go_ret
            rw [HRE.out]; exact rpost_err HAf.out hc hi3 HRf.out
          | .ok (l, j5), ⟨F5, v5, hl, he, hO, hR4⟩ =>
            subst hl he
            obtain ⟨k1, k2, hj5, k4⟩ := (P_ok EV.out.ok f).bin (by omega) HQ5.out
            obtain ⟨va5, vc5, rfl, -⟩ := hO.form
            have hlj5 : (j3 + 1) ≤ j5 := k2
            have hsz05 : F5.size + 1 ≤ 3 * (j5 - (j3 + 1)) := k4
            have HG5 := Lib.hid k1
            have HO5 : Hid (OwnE nb w5 (.slice va5 (F5.flat 0).length vc5) (F5.flat 0)) := hO.mono hsw5
            have HR5 := Lib.hid hR4
            have HP5 := Lib.hid (thenE_is HP4.out HQ5.out)
            clear hR4 hO k1 k2 k4
            have hj := r4three F1 F3 F5 (.slice va1 (F1.flat 0).length vc1) (.slice va3 (F3.flat 0).length vc3) (.slice va5 (F5.flat 0).length vc5) w5 HO1.out.isE HO3.out.isE HO5.out.isE HG1.out.one HG3.out.one HG5.out.one (by omega)
            have HRE := Lib.hid (one_some HP5.out)
            obtain ⟨c0, c1, c2, c3, c4⟩ := HR5.out.cells
            have hsz : w.heap.size ≤ w5.heap.size := HA5.out.size
            go_wp2_with fail
            refine hj.mono ?_
            rintro r4 w9 ⟨v9, rfl, ho, hb⟩
            have HR9 := Lib.hid (HR5.out.below hb)
            have HA9 := Lib.hid (HA5.out.then hb)
            have HO9 := Lib.hid (ho.mono hsz)
            clear hj ho hb c0 c1 c2 c3 c4
            go_wp2_with fail
            go_ret
            rw [HRE.out]; exact rpost_ok HA9.out HO9.out HR9.out
end
end Go.Proofs.YtjnpkdpljmkpiaaGreatDoor
namespace Go.Proofs.YtjnpkdpljmkpiaaGreatDoor
open Go.RowKit Go.Shelf Tx Px
theorem args_cases {L : List Tok} {f i o : Nat} {l : List Fo} {r : Res} (h : P L f (.args l) i o = some r) :
    ∃ g, f = g + 1 ∧ ((∃ e, P L g (.bin 0) i o = some (.error e) ∧ r = .error e) ∨ ∃ a j, P L g (.bin 0) i o = some (.ok ([a], j)) ∧
      ((isT L j tRpar = true ∧ r = .ok (l ++ [a], j + 1)) ∨ (isT L j tRpar = false ∧ isT L j tComma = true ∧ P L g (.args (l ++ [a])) (j + 1) o = some r) ∨ (isT L j tRpar = false ∧ isT L j tComma = false ∧ r = .error (5, atP L j)))) := by
  cases f with
  | zero => cases h
  | succ g =>
    refine ⟨g, rfl, ?_⟩
    simp only [P, stepP] at h
    rcases thenE_some h with ⟨e, h1, h2⟩ | ⟨a, j, h1, h2⟩
    · exact Or.inl ⟨e, h1, h2⟩
    · refine Or.inr ⟨a, j, h1, ?_⟩
      split at h2
      · rename_i h3; exact Or.inl ⟨h3, (Option.some.inj h2).symm⟩
      rename_i h3
      split at h2
      · rename_i h4; exact Or.inr (Or.inl ⟨by simpa using h3, h4, h2⟩)
      · rename_i h4; exact Or.inr (Or.inr ⟨by simpa using h3, by simpa using h4, (Option.some.inj h2).symm⟩)
def RPosts (St : World → Int → Int → Int → Int → Prop) (rb : Nat) (o : Int) (w : World) (r : Res) (e : Ending) (w' : World) : Prop :=
  Al rb w w' ∧ match r with
  | .error (c, p) => ∃ (a : Option Addr) (n k i : Nat), e = .returned (.slice a n k) ∧ c ≠ 0 ∧ i ≤ 200000 ∧ St w' (i : Nat) o c p
  | .ok (l, i) => ∃ v, e = .returned v ∧ RwE w.heap.size w' v (l.map (Fo.flat 0)) ∧ St w' (i : Nat) o 0 0
def LpA (St : World → Int → Int → Int → Int → Prop) (L : List Tok) (rb base : Nat) (o : Nat) (w : World) (fu : Nat) (r : Res) (ov : Value) (wr : World) : Prop :=
  Al rb w wr ∧ ((∃ (Fs : List Fo) (i g : Nat), g < fu ∧ RwE base wr ov (Fs.map (Fo.flat 0)) ∧ (∀ F ∈ Fs, Px.Good F) ∧ (cat Fs).size + Fs.length ≤ 3 * i ∧ i ≤ L.length ∧ St wr (i : Nat) o 0 0 ∧ P L g (.args Fs) i o = some r) ∨
    ∃ (c p : Int) (a : Option Addr) (m k i : Nat), r = .error (c, p) ∧ c ≠ 0 ∧ i ≤ 200000 ∧ St wr (i : Nat) o c p ∧ ov = .slice a m k)
section
variable {L : List Tok} {a : Option Addr} {cc rb : Nat} {w0 : World}
set_option maxHeartbeats 1000000 in
theorem r4Args_none (EV : Hid (EnvOk w0 rb a cc L)) (J o : Nat) (w : World) (hJ : isT L J tRpar = true) (hB : Al rb w0 w) (hR : Rd rb (.slice a L.length cc) w J o 0 0) :
    Calls Tryz.prog 165 #[.pointer (some ⟨rb, 0, none⟩)] w fun e w' => e = .returned (.slice none 0 0) ∧ Rd rb (.slice a L.length cc) w' ((J : Int) + 1) o 0 0 ∧ Al rb w w' := by
  have hJL := isT_lt hJ
  have hL := EV.out.len
  have hc := r4take_yes EV J (by omega) o 0 ⟨#[41]⟩ hJ w hB hR
  clear hJ hB hR EV
  go_enter Tryz.func165, Tryz.ntmps165
  go_wp2_with fail
  refine hc.mono ?_
  rintro r w1 ⟨rfl, hR, hA⟩
  have HR := Lib.hid hR
  have HA := Lib.hid hA
  clear hc hR hA
  go_wp2_with fail
  go_ret
  exact ⟨rfl, HR.out, HA.out⟩
set_option maxRecDepth 100000 in
set_option maxHeartbeats 4000000 in
theorem r4Args_any (EV : Hid (EnvOk w0 rb a cc L)) (f : Nat) (IH : Hid (∀ g, g < f → LvOk w0 rb a cc L g)) (J o : Nat) (r : Res) (w : World) (hJ : J ≤ L.length) (hnp : isT L J tRpar = false) (hP : P L f (.args []) J o = some r) (hB : Al rb w0 w) (hR : Rd rb (.slice a L.length cc) w J o 0 0) :
    Calls Tryz.prog 165 #[.pointer (some ⟨rb, 0, none⟩)] w (RPosts (Rd rb (.slice a L.length cc)) rb o w r) := by
  have hL := EV.out.len
  have hlt := hR.lt
  obtain ⟨nb, hnb⟩ : ∃ nb, nb = w.heap.size := ⟨_, rfl⟩
  have HNB := Lib.hid hnb
  rw [← hnb] at hlt
  have HB := Lib.hid hB
  have hc := r4take_no EV J (by omega) o 0 0 ⟨#[41]⟩ (Or.inl hnp) w hB hR
  have HLP : Hid (∀ w1, Below w.heap.size w w1 → LpA (Rd rb (.slice a L.length cc)) L rb nb o w (f + 1) r (.slice none 0 0) w1) := fun w1 hb =>
    ⟨Al.of hb, Or.inl ⟨[], J, f, by omega, RwE.nil_ _ _, (fun F hF => by simp at hF), by simp [cat, Fo.size], hJ, hR.below hb, hP⟩⟩
  clear hB hR hP hnp hnb
  go_enter Tryz.func165, Tryz.ntmps165
  go_wp2_with fail
  refine hc.mono ?_
  rintro e w1 ⟨rfl, hb⟩
  have HLP2 := Lib.hid (HLP.out w1 hb)
  clear hc hb HLP
  go_wp2_with fail
  go_loopw [3] (fun ov wr => LpA (Rd rb (.slice a L.length cc)) L rb nb o w (f + 1) r ov wr) (fun _ wr => mR rb 1 3 L.length wr)
  case atStart => exact HLP2.out
  case round =>
    obtain ⟨hA, ⟨Fs, i, g2, hg2, hO, hG, hF, hi, hR, hP⟩ | ⟨c, p, x, n, k, i, hr, hc, hi, hR, rfl⟩⟩ := hrel
    · have hBr : Al rb w0 wr := HB.out.next hA
      obtain ⟨vs, hO1, hO2⟩ := hO.row
      obtain ⟨va, vc, rfl, hvc⟩ := hO.len
      rw [List.length_map] at hO1 hvc ⊢
      obtain ⟨fl, hfl⟩ : ∃ fl, fl = Fs.length := ⟨_, rfl⟩
      rw [← hfl] at hO1 hvc ⊢
      have hfr := mR_ok (N := L.length) hR.cells.2.1 hR.cells.2.2.2.1
      have HM := Lib.hid hfr
      obtain ⟨g3, rfl, hrest⟩ := args_cases hP
      obtain ⟨c0, c1, c2, c3, c4⟩ := hR.cells
      obtain ⟨r3, hr3⟩ : ∃ r3, P L g3 (.bin 0) i o = some r3 := by
        rcases hrest with ⟨e, h, _⟩ | ⟨a, i, h, _⟩
        · exact ⟨_, h⟩
        · exact ⟨_, h⟩
      have hcall := IH.out g3 (by omega) 0 i o r3 wr (by omega) hi hr3 hBr hR
      have hrw : nb ≤ wr.heap.size := by rw [HNB.out]; exact hA.size
      have hflb : fl ≤ 400000 := by omega
      have HR3 := Lib.hid hr3
      have HRS := Lib.hid hrest
      have HO1 := Lib.hid hO1
      have HO2 := Lib.hid hO2
      have HOL := Lib.hid (fun g hg => (World.ownsRow.lt hO1 g hg).1)
      have HG := Lib.hid hG
      have HA := Lib.hid hA
      have HFL := Lib.hid hfl
      clear hr3 hrest hO hO1 hO2 hG hR hP hfr hfl
      go_wp2_with fail
      refine hcall.mono ?_
      rintro e w3 ⟨hA3, hpost⟩
      have HA3 : Hid (Al rb w w3) := HA.out.next hA3
      have hrw3 : nb ≤ w3.heap.size := by have := hA3.size; omega
      have hO3 : w3.ownsRow nb 30 1 (.slice va fl vc) fl vs := Fr.ownsRow hA3 HO1.out (fun k hk e => by have := HOL.out k hk; omega)
      have HO3 : Hid (∀ (i : Nat) (u : Value) (e : List Nd), vs[i]? = some u → (Fs.map (Fo.flat 0))[i]? = some e → OwnE nb w3 u e) := fun i u e hu he => hA3.ownE (HO2.out i u e hu he) hlt
      clear hcall hA3 c0 c1 c2 c3 c4 hBr hA HO1 HO2
      match r3, hpost with
      | .error (c, p), ⟨y, yn, yk, i3, he, hc, hi3, hR4⟩ =>
        subst he
        have HRE : Hid (r = .error (c, p)) := by
          rcases HRS.out with ⟨e, h, h2⟩ | ⟨a, i, h, _⟩
          · have h3 := HR3.out.symm.trans h; cases h3; exact h2
          · have h3 := HR3.out.symm.trans h; cases h3
        have HR4 := Lib.hid hR4
        clear hR4
        go_wp2_with (at_builtin; refine wpList_app rowE rfl _ _ rfl nb _ _ _ rfl (hO3.alloc _) ⟨w3.heap.size, 0, none⟩ 1 [.slice y yn yk] rfl rfl ?c1 ?c2 ?c3 ?c4 (w3.heap.size + 1) ?c5 ?_)
        case c1 => exact World.news_of_block (heap_alloc_new w3 _)
        case c2 => simp [Value.oneCell']
        case c3 => omega
        case c4 => simp; omega
        case c5 => simp
        intro g cap w4 hown hgrow hat hlt4 hcap
        have hgr : Gr w3 (.slice va fl vc) w4 (.slice (some ⟨g, 0, none⟩) (fl + 1) cap) := gr_append hgrow hat
        have HA4 : Hid (Al rb w w4) := Gr.fr HA3.out hgr (fun g hg => by rw [← HNB.out]; exact HOL.out g hg)
        have HR5 : Hid (Rd rb (.slice a L.length cc) w4 i3 o c p) := hgr.blk HR4.out (fun h => by have := HOL.out rb h; omega)
        clear hown hgrow hat hgr hO3 hlt4 hcap
        have ht := r4take_no EV i3 hi3 o c p ⟨#[41]⟩ (Or.inr hc) w4 (HB.out.next HA4.out) HR5.out
        go_wp2_with fail
        refine ht.mono ?_
        rintro e w5 ⟨rfl, hb5⟩
        have HR6 := Lib.hid (HR5.out.below hb5)
        have HA6 := Lib.hid (HA4.out.then hb5)
        have hn := r4need_fault EV i3 hi3 o c p ⟨#[44]⟩ hc w5 (HB.out.next HA6.out) HR6.out
        clear ht hb5
        go_wp2_with fail
        refine hn.mono ?_
        rintro e w6 ⟨rfl, hb6⟩
        have HR7 := Lib.hid (HR6.out.below hb6)
        have HA7 := Lib.hid (HA6.out.then hb6)
        clear hn hb6
        go_wp2_with fail
        go_roundw
        case rel => exact ⟨HA7.out, Or.inr ⟨c, p, _, _, _, i3, HRE.out, hc, hi3, HR7.out, rfl⟩⟩
        case measure => rw [HM.out, mR_err HR7.out.cells.2.2.2.1 hc]; omega
      | .ok (l, j), ⟨F, v, hl, he, hO4, hR4⟩ =>
        subst hl he
        obtain ⟨k1, k2, k3, k4⟩ := (P_ok EV.out.ok g3).bin hi HR3.out
        obtain ⟨ya, yc, rfl, -⟩ := hO4.form
        obtain ⟨yl, hyl⟩ : ∃ yl, yl = (F.flat 0).length := ⟨_, rfl⟩
        rw [← hyl] at hO4 ⊢
        have HR4 := Lib.hid hR4
        have HK1 := Lib.hid k1
        have HO4 : Hid (OwnE nb w3 (.slice ya yl yc) (F.flat 0)) := hO4.mono hrw
        have HRE : Hid ((isT L j tRpar = true ∧ r = .ok (Fs ++ [F], j + 1)) ∨ (isT L j tRpar = false ∧ isT L j tComma = true ∧ P L g3 (.args (Fs ++ [F])) (j + 1) o = some r) ∨ (isT L j tRpar = false ∧ isT L j tComma = false ∧ r = .error (5, atP L j))) := by
          rcases HRS.out with ⟨e, h, h2⟩ | ⟨a, i, h, h2⟩
          · have h3 := HR3.out.symm.trans h; cases h3
          · have h3 := HR3.out.symm.trans h; cases h3; exact h2
        clear hR4 hO4 k1 hyl
        go_wp2_with (at_builtin; refine wpList_app rowE rfl _ _ rfl nb _ _ _ rfl (hO3.alloc _) ⟨w3.heap.size, 0, none⟩ 1 [.slice ya yl yc] rfl rfl ?c6 ?c7 ?c8 ?c9 (w3.heap.size + 1) ?c10 ?_)
        case c6 => exact World.news_of_block (heap_alloc_new w3 _)
        case c7 => simp [Value.oneCell']
        case c8 => omega
        case c9 => simp; omega
        case c10 => simp
        intro g cap w4 hown hgrow hat hlt4 hcap
        have hgr : Gr w3 (.slice va fl vc) w4 (.slice (some ⟨g, 0, none⟩) (fl + 1) cap) := gr_append hgrow hat
        have HA4 : Hid (Al rb w w4) := Gr.fr HA3.out hgr (fun g hg => by rw [← HNB.out]; exact HOL.out g hg)
        have HR5 : Hid (Rd rb (.slice a L.length cc) w4 j o 0 0) := hgr.blk HR4.out (fun h => by have := HOL.out rb h; omega)
        have HO5 : Hid (RwE nb w4 (.slice (some ⟨g, 0, none⟩) (fl + 1) cap) ((Fs ++ [F]).map (Fo.flat 0))) := by
          show RwE _ _ _ _
          rw [List.map_append]
          exact RwE.push (by rw [List.length_map, HFL.out]) hO3 HO3.out HO4.out hown hgrow
        clear hown hgrow hat hgr hO3 hlt4 hcap
        rcases hT : isT L j tRpar with _ | _
        · have ht := r4take_no EV j (by omega) o 0 0 ⟨#[41]⟩ (Or.inl hT) w4 (HB.out.next HA4.out) HR5.out
          rcases hT2 : isT L j tComma with _ | _
          · have HRR : Hid (r = .error (5, atP L j)) := by
              rcases HRE.out with h | h | h
              · exact absurd (hT.symm.trans h.1) (by decide)
              · exact absurd (hT2.symm.trans h.2.1) (by decide)
              · exact h.2.2
            have HT2 := Lib.hid hT2
            clear hT hT2
            go_wp2_with fail
            refine ht.mono ?_
            rintro e w5 ⟨rfl, hb5⟩
            have HR6 := Lib.hid (HR5.out.below hb5)
            have HA6 := Lib.hid (HA4.out.then hb5)
            have hn := r4need_no EV j (by omega) o 0 ⟨#[44]⟩ HT2.out w5 (HB.out.next HA6.out) HR6.out
            clear ht hb5
            go_wp2_with fail
            refine hn.mono ?_
            rintro e w6 ⟨rfl, hR7, hA7⟩
            have HR7 := Lib.hid hR7
            have HA7 := Lib.hid (HA6.out.next hA7)
            clear hn hR7 hA7
            go_wp2_with fail
            go_roundw
            case rel => exact ⟨HA7.out, Or.inr ⟨5, atP L j, _, _, _, j, HRR.out, by decide, by omega, HR7.out, rfl⟩⟩
            case measure => rw [HM.out, mR_err HR7.out.cells.2.2.2.1 (by decide)]; omega
          · have HRR : Hid (P L g3 (.args (Fs ++ [F])) (j + 1) o = some r) := by
              rcases HRE.out with h | h | h
              · exact absurd (hT.symm.trans h.1) (by decide)
              · exact h.2.2
              · exact absurd (hT2.symm.trans h.2.1) (by decide)
            have hjl := isT_lt hT2
            have HT2 := Lib.hid hT2
            clear hT hT2
            go_wp2_with fail
            refine ht.mono ?_
            rintro e w5 ⟨rfl, hb5⟩
            have HR6 := Lib.hid (HR5.out.below hb5)
            have HA6 := Lib.hid (HA4.out.then hb5)
            have HO6 := Lib.hid (HO5.out.below hb5)
            have hn := r4need_yes EV j (by omega) o 0 ⟨#[44]⟩ HT2.out w5 (HB.out.next HA6.out) HR6.out
            clear ht hb5
            go_wp2_with fail
            refine hn.mono ?_
            rintro e w6 ⟨rfl, hR7, hA7⟩
            have HR7 : Hid (Rd rb (.slice a L.length cc) w6 ((j + 1 : Nat) : Int) o 0 0) := by show Rd _ _ _ _ _ _ _; simpa using hR7
            have HA7 := Lib.hid (HA6.out.next hA7)
            have HO7 := Lib.hid (HO6.out.fr hA7 (fun g hg e => by omega))
            have hsz : (cat (Fs ++ [F])).size + (Fs ++ [F]).length ≤ 3 * (j + 1) := by
              rw [cat_snoc, Fo.size_app, List.length_append, List.length_singleton]; omega
            have HSZ := Lib.hid hsz
            clear hn hR7 hA7 hsz
            go_wp2_with fail
            go_roundw
            case rel => exact ⟨HA7.out, Or.inl ⟨Fs ++ [F], j + 1, g3, by omega, HO7.out, (fun G hG => by
              rcases List.mem_append.1 hG with h | h
              · exact HG.out G h
              · rw [List.mem_singleton.1 h]; exact HK1.out), HSZ.out, by omega, HR7.out, HRR.out⟩⟩
            case measure => rw [HM.out, mR_ok HR7.out.cells.2.1 HR7.out.cells.2.2.2.1]; omega
        · have ht := r4take_yes EV j (by omega) o 0 ⟨#[41]⟩ hT w4 (HB.out.next HA4.out) HR5.out
          have HRR : Hid (r = .ok (Fs ++ [F], j + 1)) := by
            rcases HRE.out with h | h | h
            · exact h.2
            · exact absurd (hT.symm.trans h.1) (by decide)
            · exact absurd (hT.symm.trans h.1) (by decide)
          clear hT
          go_wp2_with fail
          refine ht.mono ?_
          rintro e w5 ⟨rfl, hR6, hA6⟩
          have HR6 : Hid (Rd rb (.slice a L.length cc) w5 ((j + 1 : Nat) : Int) o 0 0) := by show Rd _ _ _ _ _ _ _; simpa using hR6
          have HA7 := Lib.hid (HA4.out.next hA6)
          have HO7 := Lib.hid (HO5.out.fr hA6 (fun g hg e => by omega))
          clear ht hR6 hA6
          go_wp2_with fail
          go_ret
          rw [HRR.out]
          exact ⟨HA7.out, _, rfl, by rw [← HNB.out]; exact HO7.out, HR6.out⟩
    · obtain ⟨c0, c1, c2, c3, c4⟩ := hR.cells
      have e0 : (c == 0) = false := by simp [hc]
      have e00 : (c != 0) = true := by simp [hc]
      have HE : Hid (RPosts (Rd rb (.slice a L.length cc)) rb o w r (.returned (.slice none 0 0)) wr) := by
        show RPosts _ _ _ _ _ _ _
        rw [hr]; exact ⟨hA, none, 0, 0, i, rfl, hc, hi, hR⟩
      clear hA hR hr hc hi
      go_wp2_with fail
      go_ret
      exact HE.out
end
end Go.Proofs.YtjnpkdpljmkpiaaGreatDoor
namespace Go.Proofs.YtjnpkdpljmkpiaaGreatDoor
open Go.RowKit Go.Shelf Tx Px
def namedS (p : Orc) (L : List Tok) (name : ByteArray) (I o : Nat) : Option Res :=
  if isT L (I + 1) tLpar then (if isT L (I + 2) tRpar then one (joinF 27 0 name []) (I + 3) else callS name (p (.args []) (I + 2) o)) else one (node 3 0 name .no) (I + 1)
section
variable {L : List Tok} {a : Option Addr} {cc rb : Nat} {w0 : World}
theorem r4leaf (op n : Int) (s : ByteArray) (w : World) (h : op = 1 ∨ op = 2 ∨ op = 3) :
    Calls Tryz.prog 93 #[.int .i64 op, .int .i64 n, .string s, .slice none 0 0] w fun r w' => ∃ v', r = .returned v' ∧ OwnE w.heap.size w' v' ((node op n s .no).flat 0) ∧ Below w.heap.size w w' := by
  have hj := rJoin_any op n s [] (.slice none 0 0) w Sg.nil_ (fun F hF => by simp at hF) (by simp [cat, Fo.size]) (by omega) (fun _ => by
    rw [kids_leaf, if_neg (by omega), if_neg (by omega), if_neg (by omega), if_neg (by omega), if_neg (by omega)]; rfl)
  rw [join_nil op n s (by omega)] at hj
  exact hj
theorem r4call0 (s : ByteArray) (w : World) :
    Calls Tryz.prog 93 #[.int .i64 27, .int .i64 0, .string s, .slice none 0 0] w fun r w' => ∃ v', r = .returned v' ∧ OwnE w.heap.size w' v' ((joinF 27 0 s []).flat 0) ∧ Below w.heap.size w w' :=
  rJoin_any 27 0 s [] (.slice none 0 0) w Sg.nil_ (fun F hF => by simp at hF) (by simp [cat, Fo.size]) (by omega) (fun h => absurd rfl h)
set_option maxRecDepth 100000 in
set_option maxHeartbeats 4000000 in
theorem r4named_any (EV : Hid (EnvOk w0 rb a cc L)) (f : Nat) (IH : Hid (∀ g, g < f → LvOk w0 rb a cc L g)) (I o : Nat) (name : ByteArray) (r : Res) (w : World) (hI : I < L.length) (hP : namedS (P L f) L name I o = some r) (hB : Al rb w0 w) (hR : Rd rb (.slice a L.length cc) w I o 0 0) :
    Calls Tryz.prog 160 #[.pointer (some ⟨rb, 0, none⟩), .string name] w (RPost (Rd rb (.slice a L.length cc)) rb o w r) := by
  have hL := EV.out.len
  have hlt := hR.lt
  obtain ⟨c0, c1, c2, c3, c4⟩ := hR.cells
  obtain ⟨f0, f1, f2, f3, f4⟩ := hR.free
  obtain ⟨W, hW⟩ : ∃ W, W = w.setCell ⟨rb, 1, none⟩ (.int .i64 ((I : Int) + 1)) := ⟨_, rfl⟩
  have HR1 : Hid (Rd rb (.slice a L.length cc) W ((I + 1 : Nat) : Int) o 0 0) := by show Rd _ _ _ _ _ _ _; rw [hW]; exact hR.setI _
  have HA1 : Hid (Al rb w W) := by show Al _ _ _; rw [hW]; exact (Al.refl _ _).set _ _
  have HB := Lib.hid hB
  have HP := Lib.hid hP
  have HW := Lib.hid hW
  have hsz0 := HA1.out.size
  clear hB hP hR hW
  go_enter Tryz.func160, Tryz.ntmps160
  go_wp2_with fail
  rw [← HW.out]
  clear HW c0 c1 c2 c3 c4 f0 f1 f2 f3 f4
  rcases hT : isT L (I + 1) tLpar with _ | _
  · have ht := r4take_no EV (I + 1) (by omega) o 0 0 ⟨#[40]⟩ (Or.inl hT) W (HB.out.next HA1.out) HR1.out
    have HRE : Hid (r = .ok ([node 3 0 name .no], I + 1)) := by
      have h := HP.out
      unfold namedS at h; rw [hT] at h; exact one_some h
    clear hT
    refine ht.mono ?_
    rintro e w2 ⟨rfl, hb⟩
    have HR2 := Lib.hid (HR1.out.below hb)
    have HA2 := Lib.hid (HA1.out.then hb)
    have hj := r4leaf 3 0 name w2 (Or.inr (Or.inr rfl))
    have hsz2 : w.heap.size ≤ w2.heap.size := HA2.out.size
    clear ht hb
    go_wp2_with fail
    refine hj.mono ?_
    rintro r4 w9 ⟨v9, rfl, ho, hb⟩
    have HR9 := Lib.hid (HR2.out.below hb)
    have HA9 := Lib.hid (HA2.out.then hb)
    have HO9 := Lib.hid (ho.mono hsz2)
    clear hj ho hb
    go_wp2_with fail
    go_ret
    rw [HRE.out]; exact rpost_ok HA9.out HO9.out HR9.out
  · have ht := r4take_yes EV (I + 1) (by omega) o 0 ⟨#[40]⟩ hT W (HB.out.next HA1.out) HR1.out
    have hil := isT_lt hT
    have HP2 : Hid ((if isT L (I + 2) tRpar then one (joinF 27 0 name []) (I + 3) else callS name (P L f (.args []) (I + 2) o)) = some r) := by
      have h := HP.out
      unfold namedS at h; rw [if_pos hT] at h; exact h
    clear hT
    refine ht.mono ?_
    rintro e w2 ⟨rfl, hR2, hA2⟩
    have HR2 : Hid (Rd rb (.slice a L.length cc) w2 ((I + 2 : Nat) : Int) o 0 0) := by
      show Rd _ _ _ _ _ _ _
      rw [show ((I + 2 : Nat) : Int) = ((I + 1 : Nat) : Int) + 1 by omega]; exact hR2
    have HA2 := Lib.hid (HA1.out.next hA2)
    have hsz2 : w.heap.size ≤ w2.heap.size := HA2.out.size
    clear ht hR2 hA2
    rcases hT2 : isT L (I + 2) tRpar with _ | _
    · obtain ⟨r3, hr3⟩ : ∃ r3, P L f (.args []) (I + 2) o = some r3 := by
        have h := HP2.out
        rw [hT2] at h
        simp only [Bool.false_eq_true, if_false] at h
        unfold callS at h
        split at h
        · cases h
        · rename_i h1; exact ⟨_, h1⟩
        · rename_i h1; exact ⟨_, h1⟩
      have HP3 : Hid (callS name (some r3) = some r) := by
        have h := HP2.out
        rw [hT2, hr3] at h
        exact h
      have hcall := r4Args_any EV f IH (I + 2) o r3 w2 (by omega) hT2 hr3 (HB.out.next HA2.out) HR2.out
      have HR3 := Lib.hid hr3
      clear hT2 hr3
      go_wp2_with fail
      refine hcall.mono ?_
      rintro e w3 ⟨hA3, hpost⟩
      have HA3 := Lib.hid (HA2.out.next hA3)
      have hsz3 : w.heap.size ≤ w3.heap.size := HA3.out.size
      clear hcall hA3
      match r3, hpost with
      | .error (c, p), ⟨y, yn, yk, i3, he, hc, hi3, hR4⟩ =>
        subst he
        have HRE : Hid (r = .error (c, p)) := (Option.some.inj HP3.out).symm
        have HR4 := Lib.hid hR4
        obtain ⟨c0, c1, c2, c3, c4⟩ := hR4.cells
        have e0 : (c != 0) = true := by simp [hc]
        have e00 : (c == 0) = false := by simp [hc]
        clear hR4
        go_wp2_with fail
        go_ret
        rw [HRE.out]; exact rpost_err HA3.out hc hi3 HR4.out
      | .ok (l, j), ⟨v, he, hO, hR4⟩ =>
        subst he
        have HRE : Hid (r = .ok ([joinF 27 0 name l], j)) := one_some HP3.out
        obtain ⟨k1, k2, k3, k4⟩ := P_ok EV.out.ok f (.args []) (I + 2) o _ (by omega) (fun F hF => by simp [Tag.have_] at hF) HR3.out
        simp only [Tag.have_, cat, Fo.size, List.length_nil] at k4
        have hj := rJoin_any 27 0 name l v w3 (hO.sg fun u F h => ⟨u, rfl, h.isE⟩) (fun F hF => (k1 F hF).one) (by omega) (by omega) (fun h => absurd rfl h)
        obtain ⟨va, vc, hv, -⟩ := hO.len
        rw [List.length_map] at hv
        subst hv
        have HR4 := Lib.hid hR4
        obtain ⟨c0, c1, c2, c3, c4⟩ := hR4.cells
        clear hR4 hO k1 k4
        go_wp2_with fail
        refine hj.mono ?_
        rintro r4 w9 ⟨v9, rfl, ho, hb⟩
        have HR9 := Lib.hid (HR4.out.below hb)
        have HA9 := Lib.hid (HA3.out.then hb)
        have HO9 := Lib.hid (ho.mono hsz3)
        clear hj ho hb c0 c1 c2 c3 c4
        go_wp2_with fail
        go_ret
        rw [HRE.out]; exact rpost_ok HA9.out HO9.out HR9.out
    · have hcall := r4Args_none EV (I + 2) o w2 hT2 (HB.out.next HA2.out) HR2.out
      have HRE : Hid (r = .ok ([joinF 27 0 name []], I + 3)) := by
        have h := HP2.out
        rw [if_pos hT2] at h; exact one_some h
      clear hT2
      go_wp2_with fail
      refine hcall.mono ?_
      rintro e w3 ⟨rfl, hR3, hA3⟩
      have HR3 : Hid (Rd rb (.slice a L.length cc) w3 ((I + 3 : Nat) : Int) o 0 0) := by
        show Rd _ _ _ _ _ _ _
        rw [show ((I + 3 : Nat) : Int) = ((I + 2 : Nat) : Int) + 1 by omega]; exact hR3
      have HA3 := Lib.hid (HA2.out.next hA3)
      have hsz3 : w.heap.size ≤ w3.heap.size := HA3.out.size
      have hj := r4call0 name w3
      obtain ⟨c0, c1, c2, c3, c4⟩ := HR3.out.cells
      clear hcall hR3 hA3
      go_wp2_with fail
      refine hj.mono ?_
      rintro r4 w9 ⟨v9, rfl, ho, hb⟩
      have HR9 := Lib.hid (HR3.out.below hb)
      have HA9 := Lib.hid (HA3.out.then hb)
      have HO9 := Lib.hid (ho.mono hsz3)
      clear hj ho hb c0 c1 c2 c3 c4
      go_wp2_with fail
      go_ret
      rw [HRE.out]; exact rpost_ok HA9.out HO9.out HR9.out
end
end Go.Proofs.YtjnpkdpljmkpiaaGreatDoor
