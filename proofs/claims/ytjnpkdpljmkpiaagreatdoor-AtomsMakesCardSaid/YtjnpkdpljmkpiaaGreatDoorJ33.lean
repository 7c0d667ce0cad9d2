/- The reference's reader of expressions: an expression out of tokens: the walk. The reference's reader of expressions: an expression out of a text: the walk. The program's cut: a node that is cut at; the whole: the walk. Split: the walk. What live of the laws of atoms finds: the plain facts. The function of an expression over atoms: the walk. What live of the laws of atoms lays: slices of expressions, of truths. -/
import Derived.Test.YtjnpkdpljmkpiaaGreatDoorJ1
import Derived.Test.YtjnpkdpljmkpiaaGreatDoorJ27
import Derived.Test.YtjnpkdpljmkpiaaGreatDoorJ31
import Derived.Test.YtjnpkdpljmkpiaaGreatDoorJ32
namespace Go.Proofs.YtjnpkdpljmkpiaaGreatDoor
open Go.RowKit Go.Shelf Tx Px
theorem lv_all {L : List Tok} {a : Option Addr} {cc rb : Nat} {w0 : World} (EV : Hid (EnvOk w0 rb a cc L)) : ∀ f, LvOk w0 rb a cc L f := by
  intro f
  induction f using Nat.strongRecOn with
  | _ f ih =>
    intro n I o r w hn hI hP hB hR
    match n, hn, hP with
    | 0, _, hP => exact r4Arrow_any EV f (Lib.hid ih) I o r w hI hP hB hR
    | 1, _, hP => exact r4imp_any EV f (Lib.hid ih) I o r w hI hP hB hR
    | 2, _, hP => exact r4since_any EV f (Lib.hid ih) I o r w hI hP hB hR
    | 3, _, hP => exact r4or_any EV f (Lib.hid ih) I o r w hI hP hB hR
    | 4, _, hP => exact r4and_any EV f (Lib.hid ih) I o r w hI hP hB hR
    | 5, _, hP => exact r4cmp_any EV f (Lib.hid ih) I o r w hI hP hB hR
    | 6, _, hP => exact r4sum_any EV f (Lib.hid ih) I o r w hI hP hB hR
    | 7, _, hP => exact r4prod_any EV f (Lib.hid ih) I o r w hI hP hB hR
    | 8, _, hP => exact r4operand_any EV f (Lib.hid ih) I o r w hI hP hB hR
    | n + 9, hn, _ => omega
theorem depL_flat {F : Fo} (hw : F.wf = true) (hc : F.count = 1) : depL (F.flat 0) = F.depth := by
  have hs := one_size hc
  have hN := flat_NodeP hw
  have hR : InR (F.flat 0) := fun i x hx => (hN i x hx).2.1
  rw [depL_T hR (by rw [Fo.flat_len]; exact hs), Fo.flat_len, T_flat0 hw hc]
def ParPost (_L : List Tok) (_from_ : Nat) (w : World) (r : Except (Int × Int) (Fo × Nat)) (e : Ending) (w' : World) : Prop :=
  Below w.heap.size w w' ∧ match r with
  | .error (c, p) => e = .returned (.tuple #[.slice none 0 0, .int .i64 0, .agg #[.int .i64 c, .int .i64 p]])
  | .ok (F, i) => ∃ v, e = .returned (.tuple #[v, .int .i64 i, .agg #[.int .i64 0, .int .i64 0]]) ∧ OwnE w.heap.size w' v (F.flat 0)
theorem tok_at {L : List Tok} {a : Option Addr} {cc rb : Nat} {w W0 : World} (hv : Sl tokC 3 w (.slice a L.length cc) L) (hL : L.length ≤ 100000) (hok : ∀ t ∈ L, TokOk t) (hb : Below w.heap.size w W0) (hrb : w.heap.size ≤ rb) : EnvOk W0 rb a cc L := by
  obtain ⟨a', c', h1, hc, hx⟩ := hv.form
  cases h1
  refine ⟨hL, hc, fun W hW i x hi => ?_, hok⟩
  have hB := hW.keeps hb hb.size hrb
  obtain ⟨b, o, rfl, hj⟩ := hx W hB i x hi
  exact ⟨b, o, rfl, by have := hj 0 _ rfl; simpa using this, hj 1 _ rfl, hj 2 _ rfl⟩
set_option maxRecDepth 100000 in
set_option maxHeartbeats 4000000 in
theorem rParse_any (L : List Tok) (hL : L.length ≤ 100000) (hok : ∀ t ∈ L, TokOk t) (v : Value) (from_ : Nat) (hf : from_ ≤ L.length) (r : Except (Int × Int) (Fo × Nat)) (w : World) (hv : Sl tokC 3 w v L) (hr : ParR L from_ r) :
    Calls Tryz.prog 80 #[v, .int .i64 from_] w (ParPost L from_ w r) := by
  obtain ⟨a, cc, rfl, hcc, -⟩ := hv.form
  obtain ⟨f, hf2⟩ := hr
  have C1 := Blk.new w #[.int .i64 0, .int .i64 0] 82
  have hba : Below w.heap.size w (w.alloc (.cells #[.int .i64 0, .int .i64 0] 82)) := (Below.refl _ _).alloc (Nat.le_refl _) _
  have hz1 : (w.alloc (.cells #[.int .i64 0, .int .i64 0] 82)).heap.size = w.heap.size + 1 := by simp
  have nb := (Below.refl (w.alloc (.cells #[.int .i64 0, .int .i64 0] 82)).heap.size (w.alloc (.cells #[.int .i64 0, .int .i64 0] 82))).alloc (Nat.le_refl _) (.cells #[.slice a L.length cc, .int .i64 from_, .int .i64 0, .int .i64 0, .int .i64 0] 163)
  have C2 := Blk.new (w.alloc (.cells #[.int .i64 0, .int .i64 0] 82)) #[.slice a L.length cc, .int .i64 from_, .int .i64 0, .int .i64 0, .int .i64 0] 163
  rw [hz1] at C2
  have hb2 := below_next hba nb
  have C1' := C1.below nb
  obtain ⟨W0, hW0⟩ : ∃ W0, W0 = (w.alloc (.cells #[.int .i64 0, .int .i64 0] 82)).alloc (.cells #[.slice a L.length cc, .int .i64 from_, .int .i64 0, .int .i64 0, .int .i64 0] 163) := ⟨_, rfl⟩
  rw [← hW0] at C2 hb2 C1'
  have hR0 : Rd (w.heap.size + 1) (.slice a L.length cc) W0 from_ 0 0 0 := C2
  have EV := Lib.hid (tok_at hv hL hok hb2 (rb := w.heap.size + 1) (by omega))
  have HB0 := Lib.hid hb2
  have HC1 := Lib.hid C1'
  have HW0 := Lib.hid hW0
  have hlt : ¬ ((from_ : Int) < 0) := by omega
  have hgt : ¬ ((L.length : Int) < (from_ : Int)) := by omega
  have HF2 := Lib.hid hf2
  obtain ⟨r1, hr1⟩ : ∃ r1, P L f (.bin 0) from_ 0 = some r1 := by
    unfold parse at hf2
    cases h : P L f (.bin 0) from_ 0 with
    | none => rw [h] at hf2; cases hf2
    | some q => exact ⟨q, rfl⟩
  have hcall := lv_all EV f 0 from_ 0 r1 W0 (by omega) hf hr1 (Al.refl _ _) (by simpa using hR0)
  have hAt : Hid (∀ W, Al (w.heap.size + 1) W0 W → _) := fun W (h : Al (w.heap.size + 1) W0 W) => r4At_any EV from_ (by omega) W h
  have HR1 := Lib.hid hr1
  obtain ⟨fb, hfb⟩ : ∃ fb, fb = w.heap.size := ⟨_, rfl⟩
  have HFB := Lib.hid hfb
  clear hv hba nb C1 C1' C2 hb2 hR0 hW0 hf2 hr1 hz1 hfb
  go_enter Tryz.func80, Tryz.ntmps80
  go_wp2_with fail
  rw [← HW0.out]
  refine hcall.mono ?_
  rintro e w1 ⟨hA, hpost⟩
  have HA : Hid (Al (w.heap.size + 1) W0 w1) := hA
  have hB1 : Below w.heap.size w w1 := hA.keeps HB0.out HB0.out.size (by omega)
  have k1 := hA.blk HC1.out (by omega)
  have HB1 := Lib.hid hB1
  obtain ⟨k1c0, k1c1, k1f0, k1f1⟩ := two_cells k1
  have HK1 := Lib.hid k1
  clear hcall hA hB1 HW0
  match r1, hpost with
  | .error (c, p), ⟨y, yn, yk, i3, he, hc, hi3, hR4⟩ =>
    subst he
    have HRE : Hid (r = .error (c, p)) := by
      have h := HF2.out
      unfold parse at h; rw [HR1.out] at h
      exact (Option.some.inj h).symm
    obtain ⟨c0, c1, c2, c3, c4⟩ := hR4.cells
    have e0 : (c != 0) = true := by simp [hc]
    clear hR4 hpost
    have HS : Hid (Below w.heap.size w ((w1.drew.setCell ⟨w.heap.size, 0, none⟩ (.int .i64 c)).setCell ⟨w.heap.size, 1, none⟩ (.int .i64 p))) := (HB1.out.drew.setCell (Nat.le_refl _) _).setCell (Nat.le_refl _) _
    go_wp2_with fail
    go_region
    all_goals
      go_wp2_with fail
      refine bodyPost_ret (v := .tuple #[.slice none 0 0, .int .i64 0, .agg #[.int .i64 c, .int .i64 p]]) (by simp [results, Tryz.results80, go_sem, k1c0, k1c1]) rfl ?_
      rw [HRE.out]
      exact ⟨HS.out, rfl⟩
  | .ok (l, j), ⟨G, v, hl, he, hO4, hR4⟩ =>
    subst hl he
    obtain ⟨g1, g2, g3, g4⟩ := (P_ok hok f).bin hf HR1.out
    obtain ⟨ya, yc, rfl, -⟩ := hO4.form
    have hdep := depL_flat g1.wf g1.one
    have HRE : Hid (r = if 5000 < G.size then .error (7, atP L from_) else if 40 < G.depth then .error (6, atP L from_) else .ok (G, j)) := by
      have h := HF2.out
      unfold parse at h; rw [HR1.out] at h
      exact (Option.some.inj h).symm
    obtain ⟨c0, c1, c2, c3, c4⟩ := hR4.cells
    have hlow : ∀ g, (Value.slice ya (G.flat 0).length yc).ownBlock = some g → g ≠ w.heap.size := fun g hg e => by have h1 := (hO4.low g hg).1; have h2 := HC1.out.lt; omega
    have hO4 := hO4.mono HB0.out.size
    have hsz := Fo.flat_len G 0
    rw [hsz] at hO4 hlow ⊢
    have HLOW := Lib.hid hlow
    clear hlow
    have hcat := hAt.out w1 HA.out
    by_cases h1 : 5000 < G.size
    · rw [if_pos h1] at HRE
      have e1 : decide ((5000 : Int) < (G.size : Int)) = true := decide_eq_true (by omega)
      have HS : Hid (Below w.heap.size w ((w1.setCell ⟨w.heap.size, 0, none⟩ (.int .i64 7)).setCell ⟨w.heap.size, 1, none⟩ (.int .i64 (atP L from_)))) := (HB1.out.setCell (Nat.le_refl _) _).setCell (Nat.le_refl _) _
      clear hR4 hpost hdep hO4 g1 g4 hsz
      go_wp2_with fail
      refine hcat.mono ?_
      rintro e w2 ⟨rfl, rfl⟩
      clear hcat
      go_wp2_with fail
      refine bodyPost_ret (v := .tuple #[.slice none 0 0, .int .i64 0, .agg #[.int .i64 7, .int .i64 (atP L from_)]]) (by simp [results, Tryz.results80, go_sem, k1c0, k1c1]) rfl ?_
      rw [HRE.out]
      exact ⟨HS.out, rfl⟩
    · rw [if_neg h1] at HRE
      have e1 : decide ((5000 : Int) < (G.size : Int)) = false := decide_eq_false (by omega)
      have hd := rDepth_any (G.flat 0) (.slice ya G.size yc) w1 (by rw [hsz]; omega) hO4.isE
      rw [hdep] at hd
      have HO4 := Lib.hid hO4
      have HR4 := Lib.hid hR4
      by_cases h2 : 40 < G.depth
      · rw [if_pos h2] at HRE
        have e2 : decide ((40 : Int) < (G.depth : Int)) = true := decide_eq_true (by omega)
        clear hR4 hpost hdep hO4 g1 g4 hsz hcat
        go_wp2_with fail
        refine hd.mono ?_
        rintro e w2 ⟨rfl, hb2⟩
        have HA2 := Lib.hid (HA.out.then hb2)
        have hcat := hAt.out w2 HA2.out
        have hk2 := HK1.out.below hb2
        have HB2 := Lib.hid (below_next HB1.out hb2)
        obtain ⟨p0, p1, p2, p3⟩ := two_cells hk2
        have HS : Hid (Below w.heap.size w ((w2.setCell ⟨w.heap.size, 0, none⟩ (.int .i64 6)).setCell ⟨w.heap.size, 1, none⟩ (.int .i64 (atP L from_)))) := (HB2.out.setCell (Nat.le_refl _) _).setCell (Nat.le_refl _) _
        clear hd hb2 hk2 c0 c1 c2 c3 c4 k1 k1c0 k1c1
        go_wp2_with fail
        refine hcat.mono ?_
        rintro e w3 ⟨rfl, rfl⟩
        clear hcat
        go_wp2_with fail
        refine bodyPost_ret (v := .tuple #[.slice none 0 0, .int .i64 0, .agg #[.int .i64 6, .int .i64 (atP L from_)]]) (by simp [results, Tryz.results80, go_sem, p0, p1]) rfl ?_
        rw [HRE.out]
        exact ⟨HS.out, rfl⟩
      · rw [if_neg h2] at HRE
        have e2 : decide ((40 : Int) < (G.depth : Int)) = false := decide_eq_false (by omega)
        clear hR4 hpost hdep hO4 g1 g4 hsz hcat
        go_wp2_with fail
        refine hd.mono ?_
        rintro e w2 ⟨rfl, hb2⟩
        have hk2 := HK1.out.below hb2
        have HB2 := Lib.hid (below_next HB1.out hb2)
        have HO5 := Lib.hid (HO4.out.below hb2)
        obtain ⟨p0, p1, p2, p3⟩ := two_cells hk2
        obtain ⟨q0, q1, q2, q3, q4⟩ := (HR4.out.below hb2).cells
        have HS : Hid (Below w.heap.size w ((w2.drew.setCell ⟨w.heap.size, 0, none⟩ (.int .i64 0)).setCell ⟨w.heap.size, 1, none⟩ (.int .i64 0)) ∧ OwnE w.heap.size ((w2.drew.setCell ⟨w.heap.size, 0, none⟩ (.int .i64 0)).setCell ⟨w.heap.size, 1, none⟩ (.int .i64 0)) (.slice ya G.size yc) (G.flat 0)) :=
          ⟨(HB2.out.drew.setCell (Nat.le_refl _) _).setCell (Nat.le_refl _) _, OwnE.set (OwnE.set (w := w2.drew) HO5.out (fun e => HLOW.out _ e rfl) _ _) (fun e => HLOW.out _ e rfl) _ _⟩
        clear hd hb2 hk2 c0 c1 c2 c3 c4 k1 k1c0 k1c1
        go_wp2_with fail
        go_region
        all_goals
          go_wp2_with fail
          refine bodyPost_ret (v := .tuple #[.slice ya G.size yc, .int .i64 j, .agg #[.int .i64 0, .int .i64 0]]) (by simp [results, Tryz.results80, go_sem, p0, p1]) rfl ?_
          rw [HRE.out]
          exact ⟨HS.out.1, _, rfl, HS.out.2⟩
end Go.Proofs.YtjnpkdpljmkpiaaGreatDoor
namespace Go.Proofs.YtjnpkdpljmkpiaaGreatDoor
open Go.RowKit Go.Shelf Tx Px
theorem lexS_len : ∀ r, (Lx.lexS r).1.length ≤ r.length := by
  refine Lx.lex_ind ?_ ?_ ?_ ?_ ?_
  · rw [Lx.lexS_nil]; simp
  · intro c r hb ih; rw [Lx.lexS_blank hb]; simp; omega
  · intro u hn hu hc ih; rw [Lx.lexS_com hn hu hc]; have := Lx.after_len hu; omega
  · intro u e hn hu hc he; rw [Lx.lexS_err hn hu hc he]; simp
  · intro u k t hn hu hc ht hp hne ih
    rw [Lx.lexS_tok hn hu hc ht]
    have h2 := Lx.drop_len hp hne
    simp only [List.length_cons] at ih ⊢; omega
def endR (L : List Tok) : Except (Int × Int) (Fo × Nat) → Except (Int × Int) Fo
  | .error e => .error e
  | .ok (F, i) => if i < L.length then .error (5, atP L i) else .ok F
def codeOk : Except (Int × Int) (Fo × Nat) → Prop
  | .error (c, _) => c ≠ 0
  | .ok _ => True
theorem codeOk_of {L : List Tok} {x : Except (Int × Int) (Fo × Nat)} (h : ParR L 0 x) : codeOk x := by
  match x, h with
  | .error (c, p), h => exact (fault_par (L := L) ⟨_, h, rfl⟩).1
  | .ok _, _ => trivial
def RdS (s : ByteArray) (r : Except (Int × Int) Fo) : Prop := match (Lx.lexS s.data.toList).2 with
  | some (c, m) => r = .error ((c : Int), ((s.size - m : Nat) : Int))
  | none => RdR (toks s.size (Lx.lexS s.data.toList).1) r
theorem toks_len (s : ByteArray) : (toks s.size (Lx.lexS s.data.toList).1).length ≤ s.size := by
  simp only [toks, List.length_map]; have := lexS_len s.data.toList; rwa [size_toList] at this
theorem toks_is (s : ByteArray) : ∀ t ∈ toks s.size (Lx.lexS s.data.toList).1, TokOk t := toks_ok s.data.toList s.size
theorem RdS.all (s : ByteArray) : ∃ r, RdS s r := by
  unfold RdS
  split
  · exact ⟨_, rfl⟩
  · exact RdR.all (toks_is s)
def RdPost (w : World) (r : Except (Int × Int) Fo) (e : Ending) (w' : World) : Prop :=
  Below w.heap.size w w' ∧ match r with
  | .error (c, p) => c ≠ 0 ∧ e = .returned (.tuple #[.slice none 0 0, .agg #[.int .i64 c, .int .i64 p]])
  | .ok F => ∃ v, e = .returned (.tuple #[v, .agg #[.int .i64 0, .int .i64 0]]) ∧ OwnE w.heap.size w' v (F.flat 0)
set_option maxRecDepth 100000 in
set_option maxHeartbeats 4000000 in
theorem rRead_any (s : ByteArray) (hs : s.size ≤ 100000) (r : Except (Int × Int) Fo) (hr : RdS s r) (w : World) :
    Calls Tryz.prog 40 #[.string s] w (RdPost w r) := by
  have C1 := Blk.new w #[.int .i64 0, .int .i64 0] 82
  have hba : Below w.heap.size w (w.alloc (.cells #[.int .i64 0, .int .i64 0] 82)) := (Below.refl _ _).alloc (Nat.le_refl _) _
  have hz1 : (w.alloc (.cells #[.int .i64 0, .int .i64 0] 82)).heap.size = w.heap.size + 1 := by simp
  have hlex := rLex_any s hs (w.alloc (.cells #[.int .i64 0, .int .i64 0] 82))
  have HR := Lib.hid hr
  have HBA := Lib.hid hba
  have HC1 := Lib.hid C1
  clear hr hba C1
  go_enter Tryz.func40, Tryz.ntmps40
  go_wp2_with fail
  refine hlex.mono ?_
  rintro e w1 ⟨v, er, at_, rfl, hb1, hcase⟩
  have hk1 := HC1.out.below hb1
  have HK1 := Lib.hid hk1
  have HB1 := Lib.hid (below_next HBA.out hb1)
  have hlt1 := hk1.lt
  clear hlex hz1 hk1
  rcases hcase with ⟨rfl, rfl, hl, hown⟩ | ⟨c, m, hc, rfl, rfl, hl, rfl⟩
  · -- the tokens
    obtain ⟨L, hL⟩ : ∃ L, L = toks s.size (Lx.lexS s.data.toList).1 := ⟨_, rfl⟩
    have hLl := toks_len s
    have hLk := toks_is s
    have HRD : Hid (RdR L r) := by
      have h := HR.out
      unfold RdS at h; rw [hl] at h; rw [hL]; exact h
    rw [← hL] at hown hLl hLk
    have hLlen : (Lx.lexS s.data.toList).1.length = L.length := by rw [hL]; simp [toks]
    rw [hLlen] at hown
    have hsl : Sl tokC 3 w1 v L := Sl.own tokC_len hown rfl
    obtain ⟨x, hx, hrx⟩ := HRD.out
    obtain ⟨ta, tc, rfl, htc, -⟩ := hsl.form
    have nb := (Below.refl w1.heap.size w1).alloc (Nat.le_refl _) (.cells #[.int .i64 0, .int .i64 0] 82)
    have hz2 : (w1.alloc (.cells #[.int .i64 0, .int .i64 0] 82)).heap.size = w1.heap.size + 1 := by simp
    have hpar := rParse_any L (by omega) hLk (.slice ta L.length tc) 0 (Nat.zero_le _) x (w1.alloc (.cells #[.int .i64 0, .int .i64 0] 82)) (Sl.below hsl nb) hx
    have HSL := Lib.hid hsl
    have HNB := Lib.hid nb
    have HXR : Hid (r = endR L x) := by
      show _ = _
      rw [hrx]; match x with
      | .error e => rfl
      | .ok (F, i) => rfl
    have HXX := Lib.hid (codeOk_of hx)
    have HLK := Lib.hid hLk
    clear hown hL hLlen hx hrx hsl nb hLk HR HRD hl HC1 HBA
    go_wp2_with fail
    refine hpar.mono ?_
    rintro e w2 ⟨hb2, hpost⟩
    have hk2 := ((HK1.out.below HNB.out).below hb2)
    have HB2 : Hid (Below w.heap.size w w2) := below_next (below_next HB1.out HNB.out) hb2
    have HSL2 : Hid (Sl tokC 3 w2 (.slice ta L.length tc) L) := Sl.below (Sl.below HSL.out HNB.out) hb2
    obtain ⟨p0, p1, p2, p3⟩ := two_cells hk2
    have hlt2 := hk2.lt
    have HK2 := Lib.hid hk2
    have hsz2 : w1.heap.size + 1 ≤ w2.heap.size := by have := hb2.size; omega
    clear hpar hb2 hk2 hz2
    match x, hpost with
    | .error (c, p), he =>
      subst he
      have hc : c ≠ 0 := HXX.out
      have HRE : Hid (r = .error (c, p)) := HXR.out
      have e0 : (c != 0) = true := by simp [hc]
      have k3 := Blk.new w2 #[.int .i64 c, .int .i64 p] 82
      have B3 := (Below.refl w2.heap.size w2).alloc (Nat.le_refl _) (.cells #[.int .i64 c, .int .i64 p] 82)
      have q0 := (B3.cell (p := ⟨w.heap.size, 0, none⟩) hlt2).trans p0
      have q1 := (B3.cell (p := ⟨w.heap.size, 1, none⟩) hlt2).trans p1
      have q2 := (B3.frozen (p := ⟨w.heap.size, 0, none⟩) hlt2).trans p2
      have q3 := (B3.frozen (p := ⟨w.heap.size, 1, none⟩) hlt2).trans p3
      have hne : w.heap.size ≠ w2.heap.size := by omega
      have HS : Hid (Below w.heap.size w ((((w2.setCell ⟨w.heap.size, 0, none⟩ (.int .i64 c)).setCell ⟨w.heap.size, 1, none⟩ (.int .i64 p)).alloc (.cells #[.int .i64 c, .int .i64 p] 82)).drew)) :=
        (((HB2.out.setCell (Nat.le_refl _) _).setCell (Nat.le_refl _) _).alloc (by simp; omega) _).drew
      clear k3 B3 hpost
      go_wp2_with fail
      go_region
      all_goals
        go_wp2_with fail
        refine bodyPost_ret (v := .tuple #[.slice none 0 0, .agg #[.int .i64 c, .int .i64 p]]) (by simp [results, Tryz.results40, go_sem, p0, p1, hlt2]) rfl ?_
        rw [HRE.out]
        exact ⟨HS.out, hc, rfl⟩
    | .ok (F, i), ⟨v2, he, hO⟩ =>
      cases he
      obtain ⟨ya, yc, rfl, -⟩ := hO.form
      rw [Fo.flat_len] at hO ⊢
      have hlow : ∀ g, (Value.slice ya F.size yc).ownBlock = some g → g ≠ w.heap.size := fun g hg e => by have h1 := (hO.low g hg).1; have := HNB.out.size; omega
      have HLOW := Lib.hid hlow
      have HO := Lib.hid (hO.mono (b2 := w.heap.size) (by have := HNB.out.size; have := HB1.out.size; omega))
      have k3 := Blk.new w2 #[.int .i64 0, .int .i64 0] 82
      have B3 := (Below.refl w2.heap.size w2).alloc (Nat.le_refl _) (.cells #[.int .i64 0, .int .i64 0] 82)
      have q0 := (B3.cell (p := ⟨w.heap.size, 0, none⟩) hlt2).trans p0
      have q1 := (B3.cell (p := ⟨w.heap.size, 1, none⟩) hlt2).trans p1
      have q2 := (B3.frozen (p := ⟨w.heap.size, 0, none⟩) hlt2).trans p2
      have q3 := (B3.frozen (p := ⟨w.heap.size, 1, none⟩) hlt2).trans p3
      have hne : w.heap.size ≠ w2.heap.size := by omega
      by_cases hil : i < L.length
      · obtain ⟨t, ht⟩ : ∃ t, L[i]? = some t := ⟨_, List.getElem?_eq_getElem hil⟩
        have HRE : Hid (r = .error (5, (t.p : Int))) := by
          have h := HXR.out
          unfold endR at h; simp only [if_pos hil, atP_lt ht] at h; exact h
        obtain ⟨ta', tc', h4, -, hcell⟩ := HSL2.out.form
        cases h4
        obtain ⟨b, o, rfl, hj⟩ := hcell w2 (Below.refl _ _) i t ht
        have d2 := hj 2 _ rfl
        have hbl : b < w2.heap.size := World.block_lt_of_cell? w2 _ d2
        have d2' := (B3.cell (p := ⟨b, o + i * 3 + 2, none⟩) hbl).trans d2
        have hil2 : (i : Int) < (L.length : Int) := by omega
        have hi0 : (0 : Int) ≤ (i : Int) := by omega
        have hnb : b ≠ w2.heap.size := by omega
        have HS : Hid (Below w.heap.size w ((((w2.setCell ⟨w.heap.size, 0, none⟩ (.int .i64 5)).setCell ⟨w.heap.size, 1, none⟩ (.int .i64 t.p)).alloc (.cells #[.int .i64 0, .int .i64 0] 82)).drew)) :=
          (((HB2.out.setCell (Nat.le_refl _) _).setCell (Nat.le_refl _) _).alloc (by simp; omega) _).drew
        clear k3 B3 hpost hO hlow hcell hj ht hil
        go_wp2_with fail
        go_region
        all_goals
          go_wp2_with fail
          refine bodyPost_ret (v := .tuple #[.slice none 0 0, .agg #[.int .i64 5, .int .i64 t.p]]) (by simp [results, Tryz.results40, go_sem, p0, p1, hlt2]) rfl ?_
          rw [HRE.out]
          exact ⟨HS.out, by decide, rfl⟩
      · have HRE : Hid (r = .ok F) := by
          have h := HXR.out
          unfold endR at h; simp only [if_neg hil] at h; exact h
        have hil2 : ¬ (i : Int) < (L.length : Int) := by omega
        have HS : Hid (Below w.heap.size w (((w2.setCell ⟨w.heap.size, 0, none⟩ (.int .i64 0)).setCell ⟨w.heap.size, 1, none⟩ (.int .i64 0)).alloc (.cells #[.int .i64 0, .int .i64 0] 82)) ∧
            OwnE w.heap.size (((w2.setCell ⟨w.heap.size, 0, none⟩ (.int .i64 0)).setCell ⟨w.heap.size, 1, none⟩ (.int .i64 0)).alloc (.cells #[.int .i64 0, .int .i64 0] 82)) (.slice ya F.size yc) (F.flat 0)) :=
          ⟨((HB2.out.setCell (Nat.le_refl _) _).setCell (Nat.le_refl _) _).alloc (by simp; omega) _,
           (OwnE.set (OwnE.set HO.out (fun e => HLOW.out _ e rfl) _ _) (fun e => HLOW.out _ e rfl) _ _).below ((Below.refl _ _).alloc (Nat.le_refl _) _)⟩
        clear k3 B3 hpost hO hlow hil
        go_wp2_with fail
        refine bodyPost_ret (v := .tuple #[.slice ya F.size yc, .agg #[.int .i64 0, .int .i64 0]]) (by simp [results, Tryz.results40, go_sem, p0, p1, hlt2]) rfl ?_
        rw [HRE.out]
        exact ⟨HS.out.1, _, rfl, HS.out.2⟩
  · have HRE : Hid (r = .error ((c : Int), ((s.size - m : Nat) : Int))) := by
      have h := HR.out
      unfold RdS at h; rw [hl] at h; exact h
    have hk1 := HK1.out
    obtain ⟨p0, p1, p2, p3⟩ := two_cells hk1
    have B3 := (Below.refl w1.heap.size w1).alloc (Nat.le_refl _) (.cells #[.int .i64 c, .int .i64 (s.size - m : Nat)] 82)
    have q0 := (B3.cell (p := ⟨w.heap.size, 0, none⟩) hlt1).trans p0
    have q1 := (B3.cell (p := ⟨w.heap.size, 1, none⟩) hlt1).trans p1
    have q2 := (B3.frozen (p := ⟨w.heap.size, 0, none⟩) hlt1).trans p2
    have q3 := (B3.frozen (p := ⟨w.heap.size, 1, none⟩) hlt1).trans p3
    have hne : w.heap.size ≠ w1.heap.size := by omega
    have hc' : (c : Int) ≠ 0 := by omega
    have e0 : ((c : Int) != 0) = true := by simp [hc]
    obtain ⟨pm, hpm⟩ : ∃ pm, pm = s.size - m := ⟨_, rfl⟩
    rw [← hpm] at q0 q1 q2 q3 HRE ⊢
    have HS : Hid (Below w.heap.size w ((((w1.setCell ⟨w.heap.size, 0, none⟩ (.int .i64 c)).setCell ⟨w.heap.size, 1, none⟩ (.int .i64 pm)).alloc (.cells #[.int .i64 c, .int .i64 pm] 82)).drew)) :=
      (((HB1.out.setCell (Nat.le_refl _) _).setCell (Nat.le_refl _) _).alloc (by simp; omega) _).drew
    clear B3 hk1 hpm hl
    go_wp2_with fail
    go_region
    all_goals
      go_wp2_with fail
      refine bodyPost_ret (v := .tuple #[.slice none 0 0, .agg #[.int .i64 c, .int .i64 pm]]) (by simp [results, Tryz.results40, go_sem, p0, p1, hlt1]) rfl ?_
      rw [HRE.out]
      exact ⟨HS.out, hc', rfl⟩
end Go.Proofs.YtjnpkdpljmkpiaaGreatDoor
namespace Go.Proofs.YtjnpkdpljmkpiaaGreatDoor
open Go.RowKit Go.Shelf Tx
theorem RwE.gr {base b2 n : Nat} {w w' : World} {v u u' : Value} {vs : List Value} {L : List (List Nd)} (h : RwE base w v L) (hg : Gr w u w' u') (hu : w.ownsRow b2 30 1 u n vs) (hd : ∀ g, u.ownBlock = some g → v.ownBlock ≠ some g) : RwE base w' v L := by
  obtain ⟨vs', h1, h2⟩ := h
  refine ⟨vs', row_kept h1 (fun g _ he hl => hg.block g hl (fun e => hd g e he)), fun i x e hx he => ?_⟩
  have ho := h2 i x e hx he
  refine row_kept ho (fun g _ hb hl => hg.block g hl (fun e' => ?_))
  rcases row_apart ho hu (by decide) with h | h
  · rw [h] at hb; cases hb
  · exact h (hb.trans e'.symm)
theorem logic_kids {op a b c n : Int} {s : ByteArray} (h : Ux.isLogic op = true) : (kids (leaf op n s)).length = (kids ⟨op, a, b, c, n, s⟩).length := by
  have h2 : op = 2 ∨ op = 4 ∨ (6 ≤ op ∧ op ≤ 9) ∨ op = 26 := by
    unfold Ux.isLogic at h; simp at h; omega
  unfold kids leaf
  rcases h2 with h | h | h | h
  · simp [h]
  · simp [h]
  · simp only []
    rw [if_neg (by omega), if_neg (by omega), if_neg (by omega), if_pos (by omega), if_neg (by omega), if_neg (by omega), if_neg (by omega), if_pos (by omega)]; rfl
  · simp [h]
def kidT (e : List Nd) (x : Nd) (t : Nat) : Fo := cat (((kids x).take t).map fun k => T e k.toNat)
theorem kidT_next {e : List Nd} {x : Nd} {t : Nat} {k : Int} (hk : (kids x)[t]? = some k) : kidT e x (t + 1) = (kidT e x t).app (T e k.toNat) := by
  unfold kidT; rw [take_at hk, List.map_append, List.map_cons, List.map_nil, cat_snoc]
theorem kidT_size (e : List Nd) (x : Nd) (t : Nat) : (kidT e x t).size ≤ (kidT e x (kids x).length).size := by
  unfold kidT
  have h := sum_take ((kids x).map fun k => T e k.toNat) t
  rw [List.take_length]
  rw [List.map_take]; exact h
theorem kidT_tree {e : List Nd} {i : Nat} {x : Nd} (hR : InR e) (hx : e[i]? = some x) : T e i = .tr x.op x.n x.s (kidT e x (kids x).length) .no := by
  rw [T_at hx (hR i x hx)]; unfold kidT; rw [List.take_length]
set_option maxRecDepth 100000 in
set_option maxHeartbeats 8000000 in
theorem cut_logic (e : List Nd) (base sp i : Nat) (A : List (List Nd)) (w : World) (ev av : Value) (x : Nd) (hx : e[i]? = some x) (hl : Ux.isLogic x.op = true) (h : CutIn e base sp i A w ev av)
    (IH : Hid (∀ j, j < i → ∀ A w av, CutIn e base sp j A w ev av → Calls Tryz.prog 46 #[.pointer (some ⟨sp, 0, none⟩), ev, .int .i64 j] w (CutPost e base sp j A w av))) :
    Calls Tryz.prog 46 #[.pointer (some ⟨sp, 0, none⟩), ev, .int .i64 i] w (CutPost e base sp i A w av) := by
  obtain ⟨a, c, rfl, hc⟩ := h.row.form
  obtain ⟨n, hn⟩ : ∃ n, n = e.length := ⟨_, rfl⟩
  have hR := (mayB_iff e).1 h.may |>.inR
  have hin := hR i x hx
  have htree := kidT_tree hR hx
  have HT := Lib.hid htree
  have hTs := T_size hR ((mayB_iff e).1 h.may).nodup h.lt
  have hKS : (kidT e x (kids x).length).size + 1 ≤ 5000 := by
    have h1 := hTs
    rw [htree] at h1; simp only [Fo.size] at h1
    have := h.lt; have := h.few; omega
  have HKS : Hid ((T e i).size = (kidT e x (kids x).length).size + 1) := by show _ = _; rw [htree]; simp [Fo.size]
  obtain ⟨a1, c1, hf1, -, hcell⟩ := h.row.isE.form
  cases hf1
  obtain ⟨b, o, rfl, hg⟩ := hcell w (Below.refl _ _) i x hx
  obtain ⟨k0, k1, k2, k3, k4, k5⟩ := nd_cells hg
  rw [← hn] at hc ⊢
  have hlt : (i : Int) < (n : Int) := by have := h.lt; omega
  have hi0 : (0 : Int) ≤ (i : Int) := by omega
  obtain ⟨xop, xa, xb, xc, xn, xs⟩ := x
  simp only [] at k0 k1 k2 k3 k4 k5 hl
  have nb := (Below.refl w.heap.size w).alloc (Nat.le_refl _) (.cells #[.int .i64 xop, .int .i64 xa, .int .i64 xb, .int .i64 xc, .int .i64 xn, .string xs] 42)
  have kb := Blk.new w #[.int .i64 xop, .int .i64 xa, .int .i64 xb, .int .i64 xc, .int .i64 xn, .string xs] 42
  have HIN := Lib.hid h
  have HN := Lib.hid hn
  have HL := Lib.hid hl
  have HINR := Lib.hid hin
  have hlg := fun W => isLogic_any xop W
  rw [hl] at hlg
  have HKB := Lib.hid kb
  have HNB0 := Lib.hid nb
  have hspw := h.here.lt
  have hspb := h.sp
  clear hcell hg h hR hx hl hn htree hTs hin kb
  go_enter Tryz.func46, Tryz.ntmps46
  go_wp2_with fail
  refine (hlg _).mono ?_
  rintro r w1 ⟨rfl, hw1⟩
  have hb1 : Below w.heap.size w w1 := by rw [hw1]; exact nb
  have hkb1 : Blk w1 w.heap.size #[.int .i64 xop, .int .i64 xa, .int .i64 xb, .int .i64 xc, .int .i64 xn, .string xs] 42 := by rw [hw1]; exact HKB.out
  obtain ⟨p0, p1, p2, p3, p4, p5⟩ := six_cells hkb1
  have HB1 := Lib.hid hb1
  have HKB1 := Lib.hid hkb1
  clear hlg hw1 nb hb1 hkb1 k0 k1 k2 k3 k4 k5
  go_wp2_with fail
  refine (Kids_any ⟨xop, xa, xb, xc, xn, xs⟩ w1).mono ?_
  rintro r w2 ⟨kv, rfl, hkr, hb2⟩
  obtain ⟨ka, kc, hkv, hkc⟩ := hkr.form
  obtain ⟨kn, hkn⟩ : ∃ kn, kn = (kids ⟨xop, xa, xb, xc, xn, xs⟩).length := ⟨_, rfl⟩
  have hk3 := kids_len ⟨xop, xa, xb, xc, xn, xs⟩
  rw [← hkn] at hkv hkc hk3
  subst hkv
  have hB2 := below_next HB1.out hb2
  have HB2 := Lib.hid hB2
  have HSP2 := Lib.hid (HIN.out.here.below hB2)
  have HAT2 := Lib.hid (HIN.out.atoms.below hB2)
  have HRW2 := Lib.hid (HIN.out.row.below hB2)
  have HKR := Lib.hid hkr
  have HKB2 := Lib.hid (HKB1.out.below hb2)
  have HKN := Lib.hid hkn
  obtain ⟨nb, hnb⟩ : ∃ nb, nb = w2.heap.size := ⟨_, rfl⟩
  have HNB := Lib.hid hnb
  have hnbs : sp < nb := by have := hB2.size; omega
  have hnbw0 : w.heap.size ≤ nb := by have := hB2.size; omega
  clear hb2 hB2 hkr hkn p0 p1 p2 p3 p4 p5 hnb HKB1 HB1
  go_wp2_with fail
  go_loopw [8, 23] (fun pv iv wr => ∃ (t : Nat) (Fs : List Fo) (av' : Value), iv = .int .i64 t ∧ t ≤ kn ∧ RwE nb wr pv (Fs.map (Fo.flat 0)) ∧ Fs.length = t ∧ (∀ F ∈ Fs, F.count = 1) ∧ cat Fs = (Ux.cutF (kidT e ⟨xop, xa, xb, xc, xn, xs⟩ t) A).1 ∧
    Blk wr sp #[av'] Tsp ∧ RwE base wr av' (Ux.cutF (kidT e ⟨xop, xa, xb, xc, xn, xs⟩ t) A).2 ∧ Gs sp w2 av wr av' ∧ (∀ g, pv.ownBlock = some g → av'.ownBlock ≠ some g)) (fun _ iv _ => kn - (intOf iv).toNat)
  case atStart => exact ⟨0, [], av, rfl, Nat.zero_le _, RwE.nil_ _ _, rfl, (fun F hF => by simp at hF), rfl, HSP2.out, HAT2.out, Gs.refl _ _ _, fun g hg => by cases hg⟩
  case round =>
    obtain ⟨t, Fs, av', rfl, ht, hP, hFl, hF1, hcat, hS, hA, hG, hd⟩ := hrel
    have hbase : base ≤ wr.heap.size := by have := hS.lt; omega
    have hkr := hG.rowI HSP2.out HAT2.out HKR.out
    have hrw := hG.ownE HSP2.out HAT2.out HRW2.out
    have hkb := hG.blk HSP2.out HAT2.out HKB2.out (by decide) (by decide)
    have hnbw : nb ≤ wr.heap.size := by have := hG.size; have := HNB.out; omega
    by_cases hlt2 : t < kn
    · obtain ⟨k, hk⟩ : ∃ k, (kids ⟨xop, xa, xb, xc, xn, xs⟩)[t]? = some k := ⟨_, List.getElem?_eq_getElem (by have := HKN.out; omega)⟩
      obtain ⟨hk0, hki⟩ := HINR.out k (List.mem_of_getElem? hk)
      obtain ⟨j, rfl⟩ : ∃ j : Nat, k = (j : Int) := ⟨k.toNat, by omega⟩
      have hji : j < i := by omega
      obtain ⟨g, rfl, hg1, hg2, cy, -⟩ := hkr.at hk
      have HKT := Lib.hid (kidT_next (e := e) hk)
      obtain ⟨vs, hrow, hvs⟩ := hP.row
      obtain ⟨pa, pc, hpv, hpc⟩ := hP.len
      rw [List.length_map, hFl] at hrow hpc hpv
      subst hpv
      have hsz := kidT_size e ⟨xop, xa, xb, xc, xn, xs⟩ (t + 1)
      rw [HKT.out, Fo.size_app] at hsz
      have hTk : ((j : Int)).toNat = j := by simp
      rw [hTk] at hsz HKT
      have hlenA := Ux.cut_len (kidT e ⟨xop, xa, xb, xc, xn, xs⟩ t) A
      have hcin : CutIn e base sp j (Ux.cutF (kidT e ⟨xop, xa, xb, xc, xn, xs⟩ t) A).2 wr (.slice (some ⟨b, o, none⟩) e.length c) av' :=
        { may := HIN.out.may, few := HIN.out.few, lt := by have := HIN.out.lt; omega, row := hrw, here := hS, atoms := hA, sp := HIN.out.sp
          many := by have := HIN.out.many; have := HKS.out; omega
          lens := fun y hy => by
            rcases cut_lens _ _ y hy with h | h
            · exact HIN.out.lens y h
            · omega
          gl := by
            obtain ⟨w0, g0, hb0, hs0⟩ := HIN.out.gl
            exact ⟨w0, g0, hG.below (hb0.trans (HB2.out.mono hb0.size)) (Nat.le_trans hb0.size HB2.out.size) (Nat.le_trans hs0 HIN.out.sp) (fun g hg => Nat.le_trans hs0 (HAT2.out.low g hg).1), hs0⟩ }
      have hcall := IH.out j hji _ wr av' hcin
      rw [← HN.out] at hcall
      have HS := Lib.hid hS
      have HA := Lib.hid hA
      have HG := Lib.hid hG
      have HP := Lib.hid hP
      have HD := Lib.hid hd
      have HF1 := Lib.hid hF1
      have HFL := Lib.hid hFl
      have HCAT := Lib.hid hcat
      have HONE : Hid ((T e j).count = 1) := by
        obtain ⟨y, hy⟩ : ∃ y, e[j]? = some y := ⟨_, List.getElem?_eq_getElem (by have := HIN.out.lt; omega)⟩
        exact (T_ops ((mayB_iff e).1 HIN.out.may).inR hy).2
      have htk : (t : Int) < (kn : Int) := by omega
      have ht0 : (0 : Int) ≤ (t : Int) := by omega
      clear hS hA hG hP hd hF1 hFl hcat hk hkr hrw hkb hcin hrow hvs hlenA hsz hTk
      go_wp2_with fail
      refine hcall.mono ?_
      rintro r w3 ⟨v3, av3, rfl, ho3, hS3, hA3, hG3⟩
      obtain ⟨hP3, hd3⟩ := hG3.rwE HS.out HA.out HP.out HD.out
      obtain ⟨F3, hF3⟩ : ∃ F3, F3 = (Ux.cutF (T e j) (Ux.cutF (kidT e ⟨xop, xa, xb, xc, xn, xs⟩ t) A).2).1 := ⟨_, rfl⟩
      rw [← hF3] at ho3
      obtain ⟨ya, yc, rfl, hyc⟩ := ho3.form
      obtain ⟨yl, hyl⟩ : ∃ yl, yl = (F3.flat 0).length := ⟨_, rfl⟩
      rw [← hyl] at ho3 hyc ⊢
      obtain ⟨vs, hrow, hvs⟩ := hP3.row
      rw [List.length_map, HFL.out] at hrow
      have hn3 : nb ≤ w3.heap.size := by have := hG3.size; omega
      have HO3 := Lib.hid (ho3.mono (b2 := nb) hnbw)
      have HS3 := Lib.hid hS3
      have HA3 := Lib.hid hA3
      have HG3 := Lib.hid (HG.out.trans hG3)
      have HVS := Lib.hid hvs
      have HD3 := Lib.hid hd3
      have HF3 := Lib.hid hF3
      have hb3 : t ≤ 3 := by omega
      have HP3 := Lib.hid hP3
      have HLOW := Lib.hid (fun g hg => hP3.low g hg)
      clear hcall ho3 hS3 hA3 hG3 hvs hd3 hF3 hyl HS HA HG HP HD hP3 cy
      go_wp2_with (at_builtin; refine wpList_app rowE rfl _ _ rfl nb _ _ _ rfl (hrow.alloc _) ⟨w3.heap.size, 0, none⟩ 1 [.slice ya yl yc] rfl rfl ?c1 ?c2 ?c3 ?c4 (w3.heap.size + 1) ?c5 ?_)
      case c1 => exact World.news_of_block (heap_alloc_new w3 _)
      case c2 => simp [Value.oneCell']
      case c3 => omega
      case c4 => simp; omega
      case c5 => simp
      intro g4 cap w4 hown hgrow hat hlt4 hcap
      have hgr : Gr w3 (.slice pa t pc) w4 (.slice (some ⟨g4, 0, none⟩) (t + 1) cap) := gr_append hgrow hat
      have HP4 : Hid (RwE nb w4 (.slice (some ⟨g4, 0, none⟩) (t + 1) cap) ((Fs ++ [F3]).map (Fo.flat 0))) := by
        show RwE _ _ _ _
        rw [List.map_append]
        exact RwE.push (by rw [List.length_map, HFL.out]) hrow HVS.out HO3.out hown hgrow
      have HS4 : Hid (Blk w4 sp #[av3] Tsp) := hgr.blk HS3.out (fun h => by have := (HLOW.out sp h).1; omega)
      have HA4 := Lib.hid (HA3.out.gr hgr hrow HD3.out)
      have HG4 : Hid (Gs sp w2 av w4 av3) := by
        refine ⟨hgr.os.trans HG3.out.os, hgr.tape.trans HG3.out.tape, hgr.output.trans HG3.out.output, Nat.le_trans HG3.out.size hgr.size, fun k hk hks hn => ?_, HG3.out.own⟩
        rw [hgr.block k (Nat.lt_of_lt_of_le hk HG3.out.size) (fun e => by have := (HLOW.out k e).1; have := HNB.out; omega), HG3.out.block k hk hks hn]
      have HD4 : Hid (∀ g, (Value.slice (some ⟨g4, 0, none⟩) (t + 1) cap).ownBlock = some g → av3.ownBlock ≠ some g) := fun g hg e => by
        cases hg
        rcases hat with h | h
        · exact HD3.out g4 h e
        · have := (HA3.out.low g4 e).2; omega
      have HC4 : Hid (cat (Fs ++ [F3]) = (Ux.cutF (kidT e ⟨xop, xa, xb, xc, xn, xs⟩ (t + 1)) A).1 ∧ (Ux.cutF (T e j) (Ux.cutF (kidT e ⟨xop, xa, xb, xc, xn, xs⟩ t) A).2).2 = (Ux.cutF (kidT e ⟨xop, xa, xb, xc, xn, xs⟩ (t + 1)) A).2) := by
        show _ ∧ _
        rw [HKT.out, Ux.cut_app, cat_snoc, HCAT.out, HF3.out]; exact ⟨rfl, rfl⟩
      have HF4 : Hid (∀ F ∈ Fs ++ [F3], F.count = 1) := fun F hF => by
        rcases List.mem_append.1 hF with h | h
        · exact HF1.out F h
        · rw [List.mem_singleton.1 h, HF3.out, Ux.cut_count]; exact HONE.out
      clear hown hgrow hat hgr hrow hlt4 hcap
      go_wp2_with fail
      go_roundw
      case rel => exact ⟨t + 1, Fs ++ [F3], av3, by go_num, by omega, HP4.out, by rw [List.length_append, HFL.out]; rfl, HF4.out, HC4.out.1, HS4.out, by rw [← HC4.out.2]; exact HA4.out, HG4.out, HD4.out⟩
      case measure => simp [intOf]; omega
    · have hte : t = kn := by omega
      subst hte
      have hcs := hkb
      obtain ⟨p0, p1, p2, p3, p4, p5⟩ := six_cells hcs
      have HF : Hid ((Ux.cutF (T e i) A).1 = .tr xop xn ByteArray.empty (cat Fs) .no ∧ (Ux.cutF (T e i) A).2 = (Ux.cutF (kidT e ⟨xop, xa, xb, xc, xn, xs⟩ t) A).2) := by
        show _ ∧ _
        rw [HT.out, hcat, HKN.out]
        simp only [Ux.cutF, HL.out, if_true, and_self]
      have hops := Ux.logic_ops HL.out
      obtain ⟨pa, pc, hpv, -⟩ := hP.len
      rw [List.length_map, hFl] at hpv
      subst hpv
      have hcsz : (cat Fs).size ≤ 5000 := by
        rw [hcat]
        have := Ux.cut_size (kidT e ⟨xop, xa, xb, xc, xn, xs⟩ t) A
        have := kidT_size e ⟨xop, xa, xb, xc, xn, xs⟩ t
        omega
      have hj := Join_any xop xn ByteArray.empty Fs (.slice pa t pc) wr (hP.sg fun u F h => ⟨u, rfl, h.isE⟩) hF1 (by omega) (by omega) (fun _ => by rw [logic_kids (a := xa) (b := xb) (c := xc) (s := ByteArray.empty) HL.out, hFl]; exact HKN.out.symm)
      have hjf : joinF xop xn ByteArray.empty Fs = .tr xop xn ByteArray.empty (cat Fs) .no := by unfold joinF; rw [if_neg hops.1]
      rw [hjf] at hj
      have HS := Lib.hid hS
      have HA := Lib.hid hA
      have HG : Hid (Gs sp w av wr av') := (Gs.of_below _ HB2.out).trans hG
      clear hS hA hG hP hd hF1 hFl hcat hkr hrw hkb hcs hjf hcsz hops
      go_wp2_with fail
      refine hj.mono ?_
      rintro r w3 ⟨v3, rfl, ho3, hb3⟩
      have HS3 := Lib.hid (HS.out.below hb3)
      have HA3 := Lib.hid (HA.out.below hb3)
      have HG3 := Lib.hid (HG.out.then hb3)
      have HO3 := Lib.hid (ho3.mono (b2 := w.heap.size) HG.out.size)
      clear hj ho3 hb3 p0 p1 p2 p3 p4 p5
      go_wp2_with fail
      go_ret
      exact ⟨v3, av', rfl, by rw [HF.out.1]; exact HO3.out, HS3.out, by rw [HF.out.2]; exact HA3.out, HG3.out⟩
theorem cut_any (e : List Nd) (base sp : Nat) (ev : Value) : ∀ (i : Nat) (A : List (List Nd)) (w : World) (av : Value), CutIn e base sp i A w ev av →
    Calls Tryz.prog 46 #[.pointer (some ⟨sp, 0, none⟩), ev, .int .i64 i] w (CutPost e base sp i A w av) := by
  intro i
  induction i using Nat.strongRecOn with
  | _ i ih =>
    intro A w av h
    obtain ⟨x, hx⟩ : ∃ x, e[i]? = some x := ⟨_, List.getElem?_eq_getElem h.lt⟩
    cases hl : Ux.isLogic x.op with
    | false => exact cut_leaf e base sp i A w ev av x hx hl h
    | true => exact cut_logic e base sp i A w ev av x hx hl h (Lib.hid (fun j hj A w av h => ih j hj A w av h))
end Go.Proofs.YtjnpkdpljmkpiaaGreatDoor
namespace Go.Proofs.YtjnpkdpljmkpiaaGreatDoor
open Go.RowKit Go.Shelf Tx
def treeL (e : List Nd) : Fo := T e (e.length - 1)
def splitT (l : List (List Nd)) : List Fo × List (List Nd) := l.foldl (fun st e => (st.1 ++ [(Ux.cutF (treeL e) st.2).1], (Ux.cutF (treeL e) st.2).2)) ([], [])
theorem splitT_snoc (l : List (List Nd)) (e : List Nd) : splitT (l ++ [e]) = ((splitT l).1 ++ [(Ux.cutF (treeL e) (splitT l).2).1], (Ux.cutF (treeL e) (splitT l).2).2) := by simp [splitT, List.foldl_append]
theorem splitT_next {l : List (List Nd)} {t : Nat} {e : List Nd} (h : l[t]? = some e) : splitT (l.take (t + 1)) = ((splitT (l.take t)).1 ++ [(Ux.cutF (treeL e) (splitT (l.take t)).2).1], (Ux.cutF (treeL e) (splitT (l.take t)).2).2) := by
  rw [take_at h, splitT_snoc]
theorem splitT_len (l : List (List Nd)) : (splitT l).1.length = l.length := by
  induction l using snoc_ind with
  | h0 => rfl
  | h1 l e ih => rw [splitT_snoc]; simp [ih]
theorem splitT_few (M : Nat) (l : List (List Nd)) : (∀ e ∈ l, (treeL e).size ≤ M) → (splitT l).2.length ≤ l.length * M ∧ ∀ y ∈ (splitT l).2, y.length ≤ M := by
  induction l using snoc_ind with
  | h0 => intro _; exact ⟨by simp [splitT], fun y hy => by simp [splitT] at hy⟩
  | h1 l e ih =>
    intro h
    obtain ⟨h1, h2⟩ := ih (fun e he => h e (by simp [he]))
    have h3 := h e (by simp)
    have h4 := Ux.cut_len (treeL e) (splitT l).2
    rw [splitT_snoc]
    refine ⟨?_, fun y hy => ?_⟩
    · simp only [List.length_append, List.length_singleton]
      rw [Nat.add_mul]; omega
    · rcases cut_lens _ _ y hy with h | h
      · exact h2 y h
      · omega
def splitR (l : List (List Nd)) : List (List Nd) × List (List Nd) × Int :=
  if l.any (fun e => !mayB e) then ([], [], 1) else if 30 < (splitT l).2.length then ([], [], 7) else ((splitT l).2, (splitT l).1.map (Fo.flat 0), 0)
def SplitPost (l : List (List Nd)) (w : World) (r : Ending) (w' : World) : Prop :=
  ∃ u v, r = .returned (.tuple #[u, v, .int .i64 (splitR l).2.2]) ∧ RwE w.heap.size w' u (splitR l).1 ∧ RwE w.heap.size w' v (splitR l).2.1 ∧ Below w.heap.size w w'
theorem may_size {e : List Nd} (h : mayB e = true) : (treeL e).size = e.length := ((mayB_iff e).1 h).size
theorem may_norm {e : List Nd} (h : mayB e = true) : mayB ((treeL e).flat 0) = true := norm_may ((mayB_iff e).1 h)
theorem tree_norm {e : List Nd} (h : mayB e = true) : T ((treeL e).flat 0) (((treeL e).flat 0).length - 1) = treeL e := by
  obtain ⟨a, b, _⟩ := ((mayB_iff e).1 h).tree
  rw [Fo.flat_len]; exact T_flat0 a b
set_option maxRecDepth 100000 in
set_option maxHeartbeats 8000000 in
theorem Split_any (l : List (List Nd)) (v : Value) (w : World) (hl : l.length ≤ 100) (hM : ∀ e ∈ l, e.length ≤ 1000) (hv : Sg 1 IsL w v l) (G : Gl w) :
    Calls Tryz.prog 14 #[v] w (SplitPost l w) := by
  have hcon := containsMay_any l v w (by omega) hv (fun y hy => by have := hM y hy; omega)
  obtain ⟨a, c, rfl, hc, hx⟩ := hv.form keepsL
  obtain ⟨n, hn⟩ : ∃ n, n = l.length := ⟨_, rfl⟩
  rw [← hn] at hc hl hcon ⊢
  obtain ⟨bad, hbad⟩ : ∃ bad, bad = l.any (fun y => !mayB y) := ⟨_, rfl⟩
  rw [← hbad] at hcon
  have HN := Lib.hid hn
  have HX := Lib.hid hx
  have HBAD := Lib.hid hbad
  have HG := Lib.hid G
  clear hn hx hv hbad G
  go_enter Tryz.func14, Tryz.ntmps14
  go_wp2_with fail
  refine hcon.mono ?_
  rintro r w1 ⟨rfl, hb1⟩
  have HB1 := Lib.hid hb1
  clear hcon
  cases bad
  · have HMAY : Hid (∀ e ∈ l, mayB e = true) := fun e he => by
      have := List.any_eq_false.1 HBAD.out.symm e he
      simpa using this
    have nb1 := (Below.refl w1.heap.size w1).alloc (Nat.le_refl _) (.cells #[.slice none 0 0] Tsp)
    have ks := Blk.new w1 #[.slice none 0 0] Tsp
    obtain ⟨W1, hW1⟩ : ∃ W1, W1 = w1.alloc (.cells #[.slice none 0 0] Tsp) := ⟨_, rfl⟩
    rw [← hW1] at ks nb1
    have HW1 := Lib.hid hW1
    have HKS := Lib.hid ks
    have HNB1 := Lib.hid nb1
    obtain ⟨sp, hsp⟩ : ∃ sp, sp = w1.heap.size := ⟨_, rfl⟩
    have HSP := Lib.hid hsp
    have hspw : w.heap.size ≤ sp := by rw [hsp]; exact hb1.size
    clear hW1 ks nb1 hb1 hsp
    go_wp2_with fail
    rw [← HW1.out, ← HSP.out]
    clear HW1
    go_loopw [6, 15] (fun ov iv wr => ∃ (t : Nat) (av' : Value), iv = .int .i64 t ∧ t ≤ n ∧ RwE sp wr ov ((splitT (l.take t)).1.map (Fo.flat 0)) ∧ Blk wr sp #[av'] Tsp ∧ RwE sp wr av' (splitT (l.take t)).2 ∧ Below sp w1 wr ∧ (∀ g, ov.ownBlock = some g → av'.ownBlock ≠ some g)) (fun _ iv _ => n - (intOf iv).toNat)
    case atStart => exact ⟨0, .slice none 0 0, rfl, Nat.zero_le _, RwE.nil_ _ _, by rw [HSP.out]; exact HKS.out, RwE.nil_ _ _, by rw [HSP.out]; exact HNB1.out, fun g hg => by cases hg⟩
    case round =>
      obtain ⟨t, av', rfl, ht, hP, hS, hA, hB, hd⟩ := hrel
      have hspl := hS.lt
      obtain ⟨pa, pc, hpv, hpc⟩ := hP.len
      rw [List.length_map, splitT_len, List.length_take, Nat.min_eq_left (by have := HN.out; omega)] at hpv hpc
      subst hpv
      have hBw : Below w.heap.size w wr := HB1.out.trans (hB.mono hspw)
      by_cases hlt : t < n
      · obtain ⟨e, he⟩ : ∃ e, l[t]? = some e := ⟨_, List.getElem?_eq_getElem (by have := HN.out; omega)⟩
        have hmem := List.mem_of_getElem? he
        have hmay := HMAY.out e hmem
        have hel := hM e hmem
        obtain ⟨b, o, cs, rfl, ⟨u, rfl, hu⟩, hcell⟩ := HX.out wr hBw t e he
        have cu := hcell 0 u rfl
        simp only [Nat.mul_one, Nat.add_zero] at cu
        have hne := (may_one hmay).2.2.2
        have hsub := Sub_any e u ((e.length : Int) - 1) wr (by omega) hu
        rw [sub_last hmay] at hsub
        obtain ⟨ua, uc, rfl, -, -⟩ := hu.form
        obtain ⟨el, hel2⟩ : ∃ el, el = e.length := ⟨_, rfl⟩
        rw [← hel2] at cu hel hne hsub
        have HEL := Lib.hid hel2
        have HMY := Lib.hid hmay
        have HNX := Lib.hid (splitT_next he)
        have htn : (t : Int) < (n : Int) := by omega
        have ht0 : (0 : Int) ≤ (t : Int) := by omega
        have HP := Lib.hid hP
        have HS := Lib.hid hS
        have HA := Lib.hid hA
        have HB := Lib.hid hB
        have HD := Lib.hid hd
        have HBW := Lib.hid hBw
        clear he hmem hmay hcell hu hel2 hP hS hA hB hd hBw
        go_wp2_with fail
        refine hsub.mono ?_
        rintro r w2 ⟨ev, rfl, hE, hb2⟩
        obtain ⟨ea, ec, hev, hec⟩ := hE.form
        have hTe : T e (el - 1) = treeL e := by rw [HEL.out]; rfl
        rw [hTe] at hE hev hec
        have hEl : ((treeL e).flat 0).length = el := by
          rw [Fo.flat_len, HEL.out]; exact may_size HMY.out
        rw [hEl] at hev hec
        subst hev
        obtain ⟨E, hEE⟩ : ∃ E, E = (treeL e).flat 0 := ⟨_, rfl⟩
        rw [← hEE] at hE hEl
        have hfew := splitT_few 1000 (l.take t) (fun y hy => by
          have h1 := List.mem_of_mem_take hy
          rw [may_size (HMAY.out y h1)]; exact hM y h1)
        have htr : T E (E.length - 1) = treeL e := by rw [hEE]; exact tree_norm HMY.out
        have hll : (l.take t).length ≤ 100 := by rw [List.length_take]; omega
        have hmul : (l.take t).length * 1000 ≤ 100000 := by omega
        have hcin : CutIn E sp sp (el - 1) (splitT (l.take t)).2 w2 (.slice ea el ec) av' :=
          { may := by rw [hEE]; exact may_norm HMY.out
            few := by rw [hEl]; omega
            lt := by rw [hEl]; omega
            row := hE.mono (Nat.le_of_lt hspl)
            here := HS.out.below hb2
            atoms := HA.out.below hb2
            sp := Nat.le_refl _
            many := by
              have h1 : el - 1 = E.length - 1 := by rw [hEl]
              rw [h1, htr, may_size HMY.out]
              have := HEL.out
              have := hfew.1
              omega
            lens := fun y hy => by have := hfew.2 y hy; omega
            gl := ⟨w, HG.out, below_next HBW.out hb2, hspw⟩ }
        have hcall := cut_any E sp sp (.slice ea el ec) (el - 1) (splitT (l.take t)).2 w2 av' hcin
        have HTR : Hid (T E (el - 1) = treeL e) := by
          show _ = _
          rw [← htr, hEl, HEL.out]
        have hcast : ((el - 1 : Nat) : Int) = (el : Int) - 1 := by omega
        rw [hcast] at hcall
        have HS2 := Lib.hid (HS.out.below hb2)
        have HA2 := Lib.hid (HA.out.below hb2)
        have HP2 := Lib.hid (HP.out.below hb2)
        have HB2 := Lib.hid (HB.out.trans (hb2.mono (Nat.le_of_lt hspl)))
        have HSZ2 : Hid (wr.heap.size ≤ w2.heap.size) := hb2.size
        clear hsub hE hb2 hTe hEl hEE hfew htr hcin hcast hmul hll HS HA HP HB hec cu
        go_wp2_with fail
        refine hcall.mono ?_
        rintro r w3 ⟨v3, av3, rfl, ho3, hS3, hA3, hG3⟩
        obtain ⟨hP3, hd3⟩ := hG3.rwE HS2.out HA2.out HP2.out HD.out
        rw [HTR.out] at ho3 hA3
        obtain ⟨F3, hF3⟩ : ∃ F3, F3 = (Ux.cutF (treeL e) (splitT (l.take t)).2).1 := ⟨_, rfl⟩
        rw [← hF3] at ho3
        obtain ⟨ya, yc, rfl, hyc⟩ := ho3.form
        obtain ⟨yl, hyl⟩ : ∃ yl, yl = (F3.flat 0).length := ⟨_, rfl⟩
        rw [← hyl] at ho3 hyc ⊢
        have hlen3 : ((splitT (l.take t)).1.map (Fo.flat 0)).length = t := by
          rw [List.length_map, splitT_len, List.length_take]; have := HN.out; omega
        obtain ⟨vs, hrow, hvs⟩ := hP3.row
        rw [hlen3] at hrow
        have hn3 : sp ≤ w3.heap.size := by have := hS3.lt; omega
        have HO3 := Lib.hid (ho3.mono (b2 := sp) (by have := HSZ2.out; omega))
        have HS3 := Lib.hid hS3
        have HA3 := Lib.hid hA3
        have HB3 : Hid (Below sp w1 w3) := hG3.below HB2.out (by have := HSZ2.out; omega) (Nat.le_refl _) (fun g hg => (HA2.out.low g hg).1)
        have HVS := Lib.hid hvs
        have HD3 := Lib.hid hd3
        have HF3 := Lib.hid hF3
        have HLEN3 := Lib.hid hlen3
        have HLOW := Lib.hid (fun g hg => hP3.low g hg)
        have HNS : Hid ((Value.slice pa t pc).ownBlock ≠ some sp) := fun e => by
          rcases hrow.2 with ⟨h1, _⟩ | ⟨g, cap, cur, h1, _, hg, _⟩
          · rw [h1] at e; cases e
          · rw [h1] at e; cases e
            have := hS3; unfold Blk at this; rw [this] at hg; cases hg
        clear hcall ho3 hS3 hA3 hG3 hvs hd3 hF3 hyl hP3 hlen3 HS2 HA2 HP2 HB2 HD
        go_wp2_with (at_builtin; refine wpList_app rowE rfl _ _ rfl sp _ _ _ rfl (hrow.alloc _) ⟨w3.heap.size, 0, none⟩ 1 [.slice ya yl yc] rfl rfl ?c1 ?c2 ?c3 ?c4 (w3.heap.size + 1) ?c5 ?_)
        case c1 => exact World.news_of_block (heap_alloc_new w3 _)
        case c2 => simp [Value.oneCell']
        case c3 => omega
        case c4 => simp; omega
        case c5 => simp
        intro g4 cap w4 hown hgrow hat hlt4 hcap
        have hgr : Gr w3 (.slice pa t pc) w4 (.slice (some ⟨g4, 0, none⟩) (t + 1) cap) := gr_append hgrow hat
        have HP4 : Hid (RwE sp w4 (.slice (some ⟨g4, 0, none⟩) (t + 1) cap) ((splitT (l.take (t + 1))).1.map (Fo.flat 0))) := by
          show RwE _ _ _ _
          rw [HNX.out, List.map_append, List.map_cons, List.map_nil, ← HF3.out]
          exact RwE.push HLEN3.out hrow HVS.out HO3.out hown hgrow
        have HS4 : Hid (Blk w4 sp #[av3] Tsp) := hgr.blk HS3.out HNS.out
        have HA4 : Hid (RwE sp w4 av3 (splitT (l.take (t + 1))).2) := by
          show RwE _ _ _ _
          rw [HNX.out]; exact HA3.out.gr hgr hrow HD3.out
        have HB4 : Hid (Below sp w1 w4) := Gr.below HB3.out hgr hn3 (fun g hg => (HLOW.out g hg).1)
        have HD4 : Hid (∀ g, (Value.slice (some ⟨g4, 0, none⟩) (t + 1) cap).ownBlock = some g → av3.ownBlock ≠ some g) := fun g hg e => by
          cases hg
          rcases hat with h | h
          · exact HD3.out g4 h e
          · have := (HA3.out.low g4 e).2; omega
        clear hown hgrow hat hgr hrow hlt4 hcap
        go_wp2_with fail
        go_roundw
        case rel => exact ⟨t + 1, av3, by go_num, by omega, HP4.out, HS4.out, HA4.out, HB4.out, HD4.out⟩
        case measure => simp [intOf]; omega
      · have hte : t = n := by omega
        subst hte
        have hfull : l.take t = l := List.take_of_length_le (by have := HN.out; omega)
        rw [hfull] at hP hA
        obtain ⟨cs, fs⟩ := one_cell hS
        obtain ⟨aa, ac, rfl, hac⟩ := hA.len
        obtain ⟨al, hal⟩ : ∃ al, al = (splitT l).2.length := ⟨_, rfl⟩
        rw [← hal] at cs
        have HP := Lib.hid (hP.mono hspw)
        have HA := Lib.hid (hA.mono hspw)
        have HBW := Lib.hid hBw
        have HAL := Lib.hid hal
        by_cases hmany : 30 < al
        · have HR : Hid (splitR l = ([], [], 7)) := by
            show _ = _
            unfold splitR; rw [← HBAD.out]; simp only [Bool.false_eq_true, if_false]; rw [if_pos (by rw [← HAL.out]; exact hmany)]
          have hm2 : decide ((30 : Int) < (al : Int)) = true := decide_eq_true (by omega)
          clear hP hA hBw hal hd hS hB hac
          go_wp2_with fail
          go_ret3
          exact ⟨.slice none 0 0, .slice none 0 0, by rw [HR.out]; rfl, by rw [HR.out]; exact RwE.nil_ _ _, by rw [HR.out]; exact RwE.nil_ _ _, HBW.out⟩
        · have HR : Hid (splitR l = ((splitT l).2, (splitT l).1.map (Fo.flat 0), 0)) := by
            show _ = _
            unfold splitR; rw [← HBAD.out]; simp only [Bool.false_eq_true, if_false]; rw [if_neg (by rw [← HAL.out]; exact hmany)]
          have hm2 : decide ((30 : Int) < (al : Int)) = false := decide_eq_false (by omega)
          clear hP hA hBw hal hd hS hB hac
          go_wp2_with fail
          go_ret3
          exact ⟨.slice aa al ac, .slice pa t pc, by rw [HR.out]; rfl, by rw [HR.out, HAL.out]; exact HA.out, by rw [HR.out]; exact HP.out, HBW.out⟩
  · have HR : Hid (splitR l = ([], [], 1)) := by
      show _ = _
      unfold splitR; rw [← HBAD.out, if_pos rfl]
    clear hb1
    go_wp2_with fail
    go_ret3
    exact ⟨.slice none 0 0, .slice none 0 0, by rw [HR.out]; rfl, by rw [HR.out]; exact RwE.nil_ _ _, by rw [HR.out]; exact RwE.nil_ _ _, HB1.out⟩
end Go.Proofs.YtjnpkdpljmkpiaaGreatDoor
namespace Go.Proofs.YtjnpkdpljmkpiaaGreatDoor
open Go.RowKit Go.Shelf Tx Px
def lvA : ByteArray := ⟨#[97, 32, 60, 32, 49, 32, 97, 110, 100, 32, 110, 111, 116, 32, 98]⟩
def lvB : ByteArray := ⟨#[98, 32, 61, 62, 32, 97, 32, 60, 32, 49]⟩
def fLess (r : Fo) : Fo := .tr 12 0 ByteArray.empty (.tr 3 0 ⟨#[97]⟩ .no (.tr 1 1 ByteArray.empty .no .no)) r
def fA : Fo := .tr 6 0 ByteArray.empty (fLess (.tr 4 0 ByteArray.empty (.tr 3 0 ⟨#[98]⟩ .no .no) .no)) .no
def fB : Fo := .tr 9 0 ByteArray.empty (.tr 3 0 ⟨#[98]⟩ .no (fLess .no)) .no
def nX0 : List Nd := [⟨3, -1, -1, -1, 0, ⟨#[63, 48]⟩⟩, ⟨3, -1, -1, -1, 0, ⟨#[63, 49]⟩⟩, ⟨4, 1, -1, -1, 0, ⟨#[]⟩⟩, ⟨6, 0, 2, -1, 0, ⟨#[]⟩⟩]
def nX1 : List Nd := [⟨3, -1, -1, -1, 0, ⟨#[63, 49]⟩⟩, ⟨3, -1, -1, -1, 0, ⟨#[63, 48]⟩⟩, ⟨9, 0, 1, -1, 0, ⟨#[]⟩⟩]
def nY0 : List Nd := [⟨3, -1, -1, -1, 0, ⟨#[97]⟩⟩, ⟨1, -1, -1, -1, 1, ⟨#[]⟩⟩, ⟨12, 0, 1, -1, 0, ⟨#[]⟩⟩]
def nY1 : List Nd := [⟨3, -1, -1, -1, 0, ⟨#[98]⟩⟩]
theorem lvA_read : RdS lvA (.ok fA) := by
  have h1 : (Lx.lexS lvA.data.toList).2 = none := by kernel_rfl
  unfold RdS
  rw [h1]
  exact ⟨.ok (fA, (toks lvA.size (Lx.lexS lvA.data.toList).1).length), ⟨60, by kernel_rfl⟩, by kernel_rfl⟩
theorem lvB_read : RdS lvB (.ok fB) := by
  have h1 : (Lx.lexS lvB.data.toList).2 = none := by kernel_rfl
  unfold RdS
  rw [h1]
  exact ⟨.ok (fB, (toks lvB.size (Lx.lexS lvB.data.toList).1).length), ⟨60, by kernel_rfl⟩, by kernel_rfl⟩
theorem lv_split : splitR [fA.flat 0, fB.flat 0] = ([nY0, nY1], [nX0, nX1], 0) := by kernel_rfl
theorem lv_val1 : Ux.valA nX0 [true, false] = (true, 0) := by kernel_rfl
theorem lv_val2 : Ux.valA nX0 [true] = (false, 1) := by kernel_rfl
theorem lv_may : Ux.mayA nX0 2 = true := by kernel_rfl
end Go.Proofs.YtjnpkdpljmkpiaaGreatDoor
namespace Go.Proofs.YtjnpkdpljmkpiaaGreatDoor
open Go.RowKit Go.Shelf Tx
theorem good_of_may {e : List Nd} {most : Nat} (hm : most ≤ 1000000000) (h : Ux.mayA e most = true) : goodI e = true := by
  unfold Ux.mayA at h
  rw [Bool.and_eq_true] at h
  refine goodI_yes h.1 fun j x hx => ?_
  have h1 := List.all_eq_true.1 h.2 x (List.mem_of_getElem? hx)
  unfold Ux.nodeA at h1
  unfold Ux.badP
  cases hl : Ux.isLogic x.op with
  | true => rfl
  | false =>
    rw [hl] at h1
    simp only [Bool.false_or, Bool.and_eq_true, beq_iff_eq, Option.isSome_iff_exists] at h1
    obtain ⟨h2, k, h3⟩ := h1
    have := (Ux.numP_numOf hm h3).1
    rw [this, h2]; rfl
theorem may_of_good {e : List Nd} {most : Nat} (hm : most ≤ 1000000000) (h : goodI e = true) (hin : ∀ x ∈ e, x.op = 3 → ∀ m, Ux.numP x.s = some m → 0 ≤ m ∧ m < (most : Int)) : Ux.mayA e most = true := by
  unfold goodI at h
  rw [Bool.and_eq_true] at h
  unfold Ux.mayA
  rw [h.1, Bool.true_and, List.all_eq_true]
  intro x hx
  have h1 := List.all_eq_true.1 h.2 x hx
  unfold Ux.badP at h1
  unfold Ux.nodeA
  by_cases h3 : x.op = 3
  · rw [h3] at h1
    cases hq : Ux.numP x.s with
    | none => rw [hq] at h1; simp [Ux.isLogic] at h1
    | some m =>
      obtain ⟨h4, h5⟩ := hin x hx h3 m hq
      obtain ⟨k, rfl⟩ : ∃ k : Nat, m = (k : Int) := ⟨m.toNat, by omega⟩
      rw [(Ux.num_both hm k).2 ⟨hq, by omega⟩, h3]; rfl
  · have : (x.op != 3) = true := by simpa using h3
    rw [this] at h1
    simp at h1; rw [h1]; rfl
theorem may_out {e : List Nd} {most : Nat} (hm : most ≤ 1000000000) {t : Nat} {x : Nd} {m : Int} (hx : e[t]? = some x) (h3 : x.op = 3) (hv : Ux.numP x.s = some m) (hr : m < 0 ∨ (most : Int) ≤ m) : Ux.mayA e most = false := by
  cases h : Ux.mayA e most with
  | false => rfl
  | true =>
    unfold Ux.mayA at h
    rw [Bool.and_eq_true] at h
    have h1 := List.all_eq_true.1 h.2 x (List.mem_of_getElem? hx)
    unfold Ux.nodeA at h1
    rw [show Ux.isLogic x.op = false by rw [h3]; rfl] at h1
    simp only [Bool.false_or, Bool.and_eq_true, beq_iff_eq, Option.isSome_iff_exists] at h1
    obtain ⟨h2, k, h4⟩ := h1
    obtain ⟨h5, h6⟩ := Ux.numP_numOf hm h4
    rw [hv] at h5; cases h5; omega
theorem RunI.trans {B : Nat} {w w1 w2 : World} {s0 s1 s2 : St} (h : RunI B w s0 w1 s1) (k : RunI B w1 s1 w2 s2) : RunI B w s0 w2 s2 :=
  ⟨k.store, h.more.trans k.more h.below.size, h.below.trans k.below, k.bl⟩
set_option maxRecDepth 100000 in
theorem Make_nil (v : Value) (w : World) : Calls Tryz.prog 25 #[.pointer none, v] w fun r w' => r = .returned (.tuple #[.int .i64 0, .int .i64 1]) ∧ w' = w := by
  go_enter Tryz.func25, Tryz.ntmps25
  go_wp2_with fail
  go_ret2
  exact ⟨rfl, rfl⟩
def MakePost (e : List Nd) (B : Nat) (w : World) (s0 : St) (r : Ending) (w' : World) : Prop :=
  ∃ (v er : Int) (s' : St), r = .returned (.tuple #[.int .i64 v, .int .i64 er]) ∧ RunI B w s0 w' s' ∧ s'.ns.length ≤ s0.ns.length + (e.length + (e.length + e.length * (2 * 2 ^ s0.vars))) ∧
    ((Ux.mayA e s0.vars = false ∧ er = 1 ∧ v = 0) ∨ (Ux.mayA e s0.vars = true ∧ er = 18 ∧ v = 0 ∧ s'.ns.length = s0.budget) ∨ (Ux.mayA e s0.vars = true ∧ er = 0 ∧ DenI s' v (fun l => Ux.valL l e)))
set_option maxRecDepth 100000 in
set_option maxHeartbeats 8000000 in
theorem Make_any (e : List Nd) (v : Value) (s0 : St) (B : Nat) (w : World) (he : e.length ≤ 5000) (hs : ∀ x ∈ e, x.s.size ≤ 281474976710656) (hB : B ≤ w.heap.size) (hE : ∀ W, Below B w W → IsE W v e) (hG : ∀ W, Below B w W → Gl W) (hS0 : StoreAt w s0) (hbl : ∀ k, s0.bl k → B ≤ k) :
    Calls Tryz.prog 25 #[.pointer (some ⟨s0.sb, 0, none⟩), v] w (MakePost e B w s0) := by
  obtain ⟨a, c, rfl, hcl, -⟩ := (hE w (Below.refl _ _)).form
  have hx : ∀ W, Below B w W → ∀ i x, e[i]? = some x → ∃ b o, a = some ⟨b, o, none⟩ ∧ ∀ j u, (ndL x)[j]? = some u → W.cell? ⟨b, o + i * 6 + j, none⟩ = some u := fun W h => by
    obtain ⟨a', c', e', -, hx'⟩ := (hE W h).form
    cases e'; exact hx' W (Below.refl _ _)
  obtain ⟨n, hn⟩ : ∃ n, n = e.length := ⟨_, rfl⟩
  have hI0 : RunI B w s0 w s0 := ⟨hS0, More.refl _ _, Below.refl _ _, hbl⟩
  have HVM : Hid (s0.vars ≤ 1000000000) := by have := hS0.small; show _ ≤ _; omega
  rw [← hn] at hcl he hE ⊢
  have HN := Lib.hid hn
  have HX := Lib.hid hx
  have HS := Lib.hid hs
  have HG := Lib.hid hG
  have HE := Lib.hid hE
  have HBB := Lib.hid hB
  clear hn hx hE hG hs hS0 hbl hB
  go_enter Tryz.func25, Tryz.ntmps25
  go_wp2_with fail
  go_loopw [16] (fun iv wr => ∃ (t : Nat) (s : St), iv = .int .i64 t ∧ t ≤ n ∧ RunI B w s0 wr s ∧ s.ns.length ≤ s0.ns.length + t ∧ (∀ (j : Nat) (x : Nd), j < t → e[j]? = some x → x.op = 3 → ∀ m, Ux.numP x.s = some m → 0 ≤ m ∧ m < (s0.vars : Int))) (fun iv _ => n - (intOf iv).toNat)
  case atStart => exact ⟨0, s0, rfl, Nat.zero_le _, hI0, Nat.le_refl _, fun j x h => by omega⟩
  case round =>
    obtain ⟨t, s, rfl, ht, hI, hc, hin⟩ := hrel
    have HI := Lib.hid hI
    have HC := Lib.hid hc
    have HIN := Lib.hid hin
    clear hI0 hI hc hin
    by_cases hlt : t < n
    · obtain ⟨x, hx⟩ : ∃ x, e[t]? = some x := ⟨_, List.getElem?_eq_getElem (by have := HN.out; omega)⟩
      obtain ⟨b, o, rfl, hcell⟩ := HX.out wr HI.out.below t x hx
      obtain ⟨c0, c1, c2, c3, c4, c5⟩ := nd_cells hcell
      have HXX := Lib.hid hx
      have hxs := HS.out x (List.mem_of_getElem? hx)
      have htn : (t : Int) < (n : Int) := by omega
      have ht0 : (0 : Int) ≤ (t : Int) := by omega
      clear hx hcell
      have nb := (Below.refl wr.heap.size wr).alloc (Nat.le_refl _) (.cells (ndA x) 42)
      have kb := Blk.new wr (ndA x) 42
      go_wp2_with fail
      generalize hW1 : wr.alloc (.cells #[.int .i64 x.op, .int .i64 x.a, .int .i64 x.b, .int .i64 x.c, .int .i64 x.n, .string x.s] 42) = W1
      have HI1 : Hid (RunI B w s0 W1 s) := by rw [← hW1]; exact HI.out.pure nb HBB.out
      obtain ⟨nbk, hnbk⟩ : ∃ q, q = wr.heap.size := ⟨_, rfl⟩
      have kb1 : Blk W1 nbk #[.int .i64 x.op, .int .i64 x.a, .int .i64 x.b, .int .i64 x.c, .int .i64 x.n, .string x.s] 42 := by rw [← hW1, hnbk]; exact kb
      rw [← hnbk]
      clear hW1 hnbk kb nb c0 c1 c2 c3 c4 c5
      obtain ⟨c0, c1, c2, c3, c4, c5⟩ := six_cells kb1
      refine (number_any x.s W1 hxs (HG.out _ HI1.out.below)).mono ?_
      rintro r w2 ⟨nv, rfl, hnv, hb2⟩
      have HI2 := Lib.hid (HI1.out.pure hb2 HBB.out)
      have kb2 := kb1.below hb2
      have HNV := Lib.hid hnv
      obtain ⟨N, hN⟩ : ∃ N, N = (Ux.numP x.s).isSome := ⟨_, rfl⟩
      rw [← hN]
      have HNN := Lib.hid hN
      clear hN hnv hb2 kb1 c0 c1 c2 c3 c4 c5
      obtain ⟨c0, c1, c2, c3, c4, c5⟩ := six_cells kb2
      clear kb2
      obtain ⟨q, hq⟩ : ∃ q, q = (x.op == 3) := ⟨_, rfl⟩
      have HQ := Lib.hid hq
      have hqq := hq.symm
      clear hq
      have HC1 : Hid (s.ns.length ≤ s0.ns.length + (t + 1)) := by have := HC.out; show s.ns.length ≤ _; omega
      have hor : (N = false) ∨ (N = true ∧ q = false) ∨ (N = true ∧ q = true) := by cases N <;> cases q <;> simp
      rcases hor with rfl | ⟨rfl, rfl⟩ | ⟨rfl, rfl⟩
      · have HIN2 : Hid (∀ (j : Nat) (y : Nd), j < t + 1 → e[j]? = some y → y.op = 3 → ∀ m, Ux.numP y.s = some m → 0 ≤ m ∧ m < (s0.vars : Int)) := fun j y hj hy h3 m hm => by
          by_cases h : j = t
          · subst h; rw [HXX.out] at hy; cases hy; have := HNN.out; rw [hm] at this; cases this
          · exact HIN.out j y (by omega) hy h3 m hm
        go_wp2_with fail
        go_roundw
        case rel => exact ⟨t + 1, s, by go_num, by omega, HI2.out, HC1.out, HIN2.out⟩
        case measure => simp [intOf]; omega
      · have HIN2 : Hid (∀ (j : Nat) (y : Nd), j < t + 1 → e[j]? = some y → y.op = 3 → ∀ m, Ux.numP y.s = some m → 0 ≤ m ∧ m < (s0.vars : Int)) := fun j y hj hy h3 m hm => by
          by_cases h : j = t
          · subst h; rw [HXX.out] at hy; cases hy; have := HQ.out; rw [h3] at this; cases this
          · exact HIN.out j y (by omega) hy h3 m hm
        go_wp2_with fail
        go_roundw
        case rel => exact ⟨t + 1, s, by go_num, by omega, HI2.out, HC1.out, HIN2.out⟩
        case measure => simp [intOf]; omega
      · obtain ⟨m, hm⟩ : ∃ m, Ux.numP x.s = some m := Option.isSome_iff_exists.1 HNN.out.symm
        have hmv := HNV.out m hm
        subst hmv
        have HM := Lib.hid hm
        have H3 : Hid (x.op = 3) := by have := HQ.out; show _ = _; simpa using this.symm
        clear hm
        by_cases hmr : 0 ≤ m ∧ m < (s0.vars : Int)
        · obtain ⟨k, rfl⟩ : ∃ k : Nat, m = (k : Int) := ⟨m.toNat, by omega⟩
          have hcall := var_any w2 s HI2.out.store k (by rw [HI2.out.more.vars]; omega)
          rw [HI2.out.more.sb] at hcall
          have HIN2 : Hid (∀ (j : Nat) (y : Nd), j < t + 1 → e[j]? = some y → y.op = 3 → ∀ m, Ux.numP y.s = some m → 0 ≤ m ∧ m < (s0.vars : Int)) := fun j y hj hy h3 m hm => by
            by_cases h : j = t
            · subst h; rw [HXX.out] at hy; cases hy; rw [HM.out] at hm; cases hm; exact hmr
            · exact HIN.out j y (by omega) hy h3 m hm
          clear hmr
          go_wp2_with fail
          refine hcall.mono ?_
          rintro r w3 ⟨f, er, s3, rfl, hS3, hM3, hF3, hf3, hcn3, hor3⟩
          have HI3 := Lib.hid (HI2.out.next hS3 hM3 hF3 HBB.out)
          have HC3 : Hid (s3.ns.length ≤ s0.ns.length + (t + 1)) := by have := HC.out; show s3.ns.length ≤ _; omega
          clear hcall hS3 hM3 hF3 hf3 hcn3
          rcases hor3 with ⟨rfl, -⟩ | ⟨rfl, -, -⟩
          all_goals
            go_wp2_with fail
            go_roundw
            case rel => exact ⟨t + 1, s3, by go_num, by omega, HI3.out, HC3.out, HIN2.out⟩
            case measure => simp [intOf]; omega
        · have hout : m < 0 ∨ (s0.vars : Int) ≤ m := by omega
          have HF : Hid (Ux.mayA e s0.vars = false) := may_out HVM.out HXX.out H3.out HM.out hout
          have hcall := var_bad w2 s HI2.out.store m (by rw [HI2.out.more.vars]; exact hout)
          rw [HI2.out.more.sb] at hcall
          have HCO : Hid (s.ns.length ≤ s0.ns.length + (e.length + (e.length + e.length * (2 * 2 ^ s0.vars)))) := by
            have h1 := HC.out
            have h2 := HN.out
            show s.ns.length ≤ _
            generalize e.length * (2 * 2 ^ s0.vars) = q; omega
          clear hmr hout
          go_wp2_with fail
          refine hcall.mono ?_
          rintro r w3 ⟨rfl, rfl⟩
          clear hcall
          go_wp2_with fail
          go_ret2
          exact ⟨0, 1, s, rfl, HI2.out, HCO.out, Or.inl ⟨HF.out, rfl, rfl⟩⟩
    · have hte : t = n := by omega
      subst hte
      have hcall := runI_any e (.slice a t c) s B wr (by rw [← HN.out]; exact he) HS.out (Nat.le_trans HBB.out HI.out.below.size) (fun W h => HE.out W (HI.out.below.trans h)) (fun W h => HG.out W (HI.out.below.trans h)) HI.out.store HI.out.bl
        (fun x hx h3 m hm => by
          obtain ⟨j, hj⟩ := List.mem_iff_getElem?.1 hx
          rw [HI.out.more.vars]
          exact HIN.out j x (by have := (List.getElem?_eq_some_iff.1 hj).1; have := HN.out; omega) hj h3 m hm)
      rw [HI.out.more.sb] at hcall
      have HALL : Hid (∀ x ∈ e, x.op = 3 → ∀ m, Ux.numP x.s = some m → 0 ≤ m ∧ m < (s0.vars : Int)) := fun x hx h3 m hm => by
        obtain ⟨j, hj⟩ := List.mem_iff_getElem?.1 hx
        exact HIN.out j x (by have := (List.getElem?_eq_some_iff.1 hj).1; have := HN.out; omega) hj h3 m hm
      go_wp2_with fail
      refine hcall.mono ?_
      rintro r w3 ⟨u, er, s3, rfl, hI3, hc3, hor⟩
      have HI3 := Lib.hid (HI.out.trans hI3)
      have HCO : Hid (s3.ns.length ≤ s0.ns.length + (e.length + (e.length + e.length * (2 * 2 ^ s0.vars)))) := by
        have h1 := HC.out
        have h2 := HN.out
        rw [HI.out.more.vars] at hc3
        show s3.ns.length ≤ _
        revert hc3
        generalize e.length * (2 * 2 ^ s0.vars) = q; intro hc3; omega
      have HOR : Hid ((Ux.mayA e s0.vars = false ∧ er = 1 ∧ u = 0) ∨ (Ux.mayA e s0.vars = true ∧ er = 18 ∧ u = 0 ∧ s3.ns.length = s0.budget) ∨ (Ux.mayA e s0.vars = true ∧ er = 0 ∧ DenI s3 u (fun l => Ux.valL l e))) := by
        rcases hor with ⟨h1, h2⟩ | ⟨h1, h2, h3, h4⟩ | ⟨h1, h2⟩
        · refine Or.inl ⟨?_, h2⟩
          cases hq : Ux.mayA e s0.vars with
          | false => rfl
          | true => have := good_of_may HVM.out hq; rw [h1] at this; cases this
        · exact Or.inr (Or.inl ⟨may_of_good HVM.out h1 HALL.out, h2, h3, by rw [h4, HI.out.more.budget]⟩)
        · exact Or.inr (Or.inr ⟨may_of_good HVM.out h1 HALL.out, h2⟩)
      clear hcall hI3 hc3 hor
      go_wp2_with fail
      go_ret2
      exact ⟨u, er, s3, rfl, HI3.out, HCO.out, HOR.out⟩
end Go.Proofs.YtjnpkdpljmkpiaaGreatDoor
namespace Go.Proofs.YtjnpkdpljmkpiaaGreatDoor
open Go.RowKit Go.Shelf Tx Px
theorem lit2E {w : World} {u1 u2 : Value} {e1 e2 : List Nd} (h1 : IsE w u1 e1) (h2 : IsE w u2 e2) : Sg 1 IsL (w.alloc (.cells #[u1, u2] 30)) (.slice (some ⟨w.heap.size, 0, none⟩) 2 2) [e1, e2] := by
  have nb := (Below.refl w.heap.size w).alloc (Nat.le_refl _) (.cells #[u1, u2] 30)
  have hb := heap_alloc_new w (.cells #[u1, u2] 30)
  refine ⟨[[u1], [u2]], Or.inr ⟨w.heap.size, 0, 2, rfl, Nat.le_refl _, by rw [World.size_alloc]; omega, fun i x hi j u hu => ?_⟩, rfl, fun i c x hc hx => ?_⟩
  · match i with
    | 0 =>
      simp at hi; subst hi
      cases j with
      | zero => simp at hu; subst hu; (unfold World.cell?; rw [hb]; rfl)
      | succ j => simp at hu
    | 1 =>
      simp at hi; subst hi
      cases j with
      | zero => simp at hu; subst hu; (unfold World.cell?; rw [hb]; rfl)
      | succ j => simp at hu
    | i + 2 => simp at hi
  · match i with
    | 0 => simp at hc hx; subst hc hx; exact ⟨u1, rfl, Sl.below h1 nb⟩
    | 1 => simp at hc hx; subst hc hx; exact ⟨u2, rfl, Sl.below h2 nb⟩
    | i + 2 => simp at hc
theorem lit1B (w : World) (x : Bool) : SlBools (w.alloc (.cells #[.bool x] 4)) (.slice (some ⟨w.heap.size, 0, none⟩) 1 1) [x] := by
  have hb := heap_alloc_new w (.cells #[.bool x] 4)
  refine Or.inr ⟨w.heap.size, 0, 1, rfl, by rw [World.size_alloc]; omega, fun i hi => ?_⟩
  match i with
  | 0 => (unfold World.cell?; rw [hb]; rfl)
  | i + 1 => simp at hi
theorem lit2B (w : World) (x y : Bool) : SlBools (w.alloc (.cells #[.bool x, .bool y] 4)) (.slice (some ⟨w.heap.size, 0, none⟩) 2 2) [x, y] := by
  have hb := heap_alloc_new w (.cells #[.bool x, .bool y] 4)
  refine Or.inr ⟨w.heap.size, 0, 2, rfl, by rw [World.size_alloc]; omega, fun i hi => ?_⟩
  match i with
  | 0 => (unfold World.cell?; rw [hb]; rfl)
  | 1 => (unfold World.cell?; rw [hb]; rfl)
  | i + 2 => exact absurd hi (by simp)
theorem cnt_two {W : World} {s : St} {f : Nat} {φ : List Bool → Bool} (hS : StoreAt W s) (hv : s.vars = 2) (hf : f < s.ns.length) (hd : ∀ l : List Bool, l.length = s.vars → Dd.den s.ns (envOf l) f = φ l) :
    Dd.cnt s.vars s.ns 0 f = (List.range 4).countP (fun j => φ (Dd.rowList 2 j)) := by
  unfold Dd.cnt
  rw [hv]
  refine List.countP_congr fun j _ => ?_
  have h1 : Dd.den s.ns (Dd.rowEnv 2 j) f = Dd.den s.ns (envOf (Dd.rowList 2 j)) f :=
    Dd.den_congr hS.wf (fun i hi => by rw [hv] at hi; simp [envOf, Dd.rowList, List.getD, hi]) f hf
  rw [h1, hd _ (by rw [hv]; simp [Dd.rowList])]
theorem lv_cnt : (List.range 4).countP (fun j => Ux.valL (Dd.rowList 2 j) nX0) = 1 := by kernel_rfl
theorem two_of {base : Nat} {w : World} {v : Value} {e1 e2 : List Nd} (h : RwE base w v [e1, e2]) : ∃ a c, v = .slice a 2 c ∧ ∃ b o u1 u2, a = some ⟨b, o, none⟩ ∧ IsE w u1 e1 ∧ IsE w u2 e2 ∧ b < w.heap.size ∧ w.cell? ⟨b, o, none⟩ = some u1 ∧ w.cell? ⟨b, o + 1, none⟩ = some u2 := by
  have hs : Sg 1 IsL w v [e1, e2] := RwE.sg (q := fun x => x) (M := [e1, e2]) h (fun u x q => ⟨u, rfl, q.isE⟩)
  obtain ⟨a, c, rfl, -, hx⟩ := hs.form keepsL
  obtain ⟨b, o, cs, rfl, ⟨u1, rfl, h1⟩, hc1⟩ := hx w (Below.refl _ _) 0 e1 rfl
  obtain ⟨b', o', cs', q, ⟨u2, rfl, h2⟩, hc2⟩ := hx w (Below.refl _ _) 1 e2 rfl
  cases q
  have k1 := hc1 0 u1 rfl
  have k2 := hc2 0 u2 rfl
  exact ⟨_, c, rfl, b, o, u1, u2, rfl, h1, h2, World.block_lt_of_cell? w _ k1, by simpa using k1, by simpa using k2⟩
theorem first_str {w : World} {u : Value} {x : Nd} {r : List Nd} (h : IsE w u (x :: r)) : ∃ b o c, u = .slice (some ⟨b, o, none⟩) (r.length + 1) c ∧ b < w.heap.size ∧ w.cell? ⟨b, o + 5, none⟩ = some (.string x.s) := by
  obtain ⟨a, c, rfl, -, hx⟩ := h.form
  obtain ⟨b, o, rfl, hc⟩ := hx w (Below.refl _ _) 0 x rfl
  have k := hc 5 _ rfl
  exact ⟨b, o, c, rfl, World.block_lt_of_cell? w _ k, by simpa using k⟩
end Go.Proofs.YtjnpkdpljmkpiaaGreatDoor
