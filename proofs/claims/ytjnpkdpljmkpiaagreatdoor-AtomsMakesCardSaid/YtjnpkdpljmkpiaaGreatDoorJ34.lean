/- live of the laws of atoms: the walk. The reference's splitter: an atom: the walk. The reference's splitter: a node that is cut at: the walk. -/
import Derived.Test.YtjnpkdpljmkpiaaGreatDoorJ27
import Derived.Test.YtjnpkdpljmkpiaaGreatDoorJ33
namespace Go.Proofs.YtjnpkdpljmkpiaaGreatDoor
open Go.RowKit Go.Shelf Tx Px
def smallS (e : List Nd) : Prop := ∀ x ∈ e, x.s.size ≤ 281474976710656
instance (e : List Nd) : Decidable (smallS e) := by unfold smallS; infer_instance
def LvF (e1 e2 Y0 Y1 X0 X1 : List Nd) : Prop :=
  e1.length = 6 ∧ e2.length = 5 ∧ splitR [e1, e2] = ([Y0, Y1], [X0, X1], 0) ∧ Ux.valA X0 [true, false] = (true, 0) ∧ Ux.valA X0 [true] = (false, 1) ∧ Ux.mayA X0 2 = true ∧
  (∃ x r, X0 = x :: r ∧ x.s = ⟨#[63, 48]⟩ ∧ r.length = 3) ∧ (∃ x r, X1 = x :: r ∧ x.s = ⟨#[63, 49]⟩) ∧ Y0.length = 3 ∧ smallS X0 ∧ (List.range 4).countP (fun j => Ux.valL (Dd.rowList 2 j) X0) = 1
theorem lv_f : ∃ e1 e2 Y0 Y1 X0 X1, e1 = fA.flat 0 ∧ e2 = fB.flat 0 ∧ LvF e1 e2 Y0 Y1 X0 X1 :=
  ⟨_, _, nY0, nY1, nX0, nX1, rfl, rfl, by decide +kernel, by decide +kernel, lv_split, lv_val1, lv_val2, lv_may, ⟨_, _, rfl, rfl, rfl⟩, ⟨_, _, rfl, rfl⟩, rfl, by decide +kernel, lv_cnt⟩
set_option maxRecDepth 100000 in
set_option maxHeartbeats 4000000 in
theorem live_any (w : World) (G : Gl w) : Calls Tryz.prog 13 #[] w fun e w' => e = .returned (.bool true) ∧ Below w.heap.size w w' := by
  obtain ⟨e1, e2, Y0, Y1, X0, X1, he1, he2, hlv⟩ := lv_f
  have rdA := fun W => rRead_any lvA (by decide) (.ok fA) lvA_read W
  have rdB := fun W => rRead_any lvB (by decide) (.ok fB) lvB_read W
  have HE1 := Lib.hid he1
  have HE2 := Lib.hid he2
  obtain ⟨l1, l2, hsp, hv1, hv2, hma, hX0, hX1, hY0, hsm, hct⟩ := hlv
  have HL1 := Lib.hid l1
  have HL2 := Lib.hid l2
  have HSP := Lib.hid hsp
  have HV1 := Lib.hid hv1
  have HV2 := Lib.hid hv2
  have HMA := Lib.hid hma
  have HX0 := Lib.hid hX0
  have HX1 := Lib.hid hX1
  have HY0 := Lib.hid hY0
  have HSM := Lib.hid hsm
  have HCT := Lib.hid hct
  have HG := Lib.hid G
  clear he1 he2 l1 l2 hsp hv1 hv2 hma hX0 hX1 hY0 hsm hct G
  go_enter Tryz.func13, Tryz.ntmps13
  go_wp2_with fail
  refine (rdA w).mono ?_
  rintro e w1 ⟨hb1, v1, rfl, ho1⟩
  rw [← HE1.out] at ho1
  obtain ⟨a1, c1, hv1, -⟩ := ho1.isE.form
  rw [HL1.out] at hv1
  subst hv1
  clear rdA
  have nb1 := (Below.refl w1.heap.size w1).alloc (Nat.le_refl _) (.cells #[.int .i64 0, .int .i64 0] 82)
  have B1 := below_next hb1 nb1
  have s1 : IsE (w1.alloc (.cells #[.int .i64 0, .int .i64 0] 82)) _ _ := Sl.below ho1.isE nb1
  clear ho1 hb1 nb1
  go_wp2_with fail
  generalize w1.alloc (.cells #[.int .i64 0, .int .i64 0] 82) = W1 at B1 s1 ⊢
  refine (rdB W1).mono ?_
  rintro e w2 ⟨hb2, v2, rfl, ho2⟩
  rw [← HE2.out] at ho2
  obtain ⟨a2, c2, hv2, -⟩ := ho2.isE.form
  rw [HL2.out] at hv2
  subst hv2
  clear rdB
  have nb2 := (Below.refl w2.heap.size w2).alloc (Nat.le_refl _) (.cells #[.int .i64 0, .int .i64 0] 82)
  have B2 := below_next (below_next B1 hb2) nb2
  have s2 : IsE (w2.alloc (.cells #[.int .i64 0, .int .i64 0] 82)) _ _ := Sl.below ho2.isE nb2
  have s1 : IsE (w2.alloc (.cells #[.int .i64 0, .int .i64 0] 82)) _ _ := Sl.below (Sl.below s1 hb2) nb2
  clear ho2 hb2 nb2 B1
  go_wp2_with fail
  generalize hW2 : w2.alloc (.cells #[.int .i64 0, .int .i64 0] 82) = W2 at B2 s1 s2 ⊢
  have hz2 : W2.heap.size = w2.heap.size + 1 := by rw [← hW2]; simp
  have nb3 := (Below.refl W2.heap.size W2).alloc (Nat.le_refl _) (.cells #[.slice a1 6 c1, .slice a2 5 c2] 30)
  have B3 := below_next B2 nb3
  have hs3 := lit2E s1 s2
  rw [hz2] at hs3
  have hsplit := Split_any [e1, e2] _ _ (by simp) (by intro y hy; simp at hy; rcases hy with rfl | rfl; (rw [HL1.out]; decide); (rw [HL2.out]; decide)) hs3 (HG.out.below B3)
  unfold SplitPost at hsplit
  rw [HSP.out] at hsplit
  clear nb3 hs3 s1 s2 B2 hW2 hz2
  generalize W2.alloc (.cells #[.slice a1 6 c1, .slice a2 5 c2] 30) = W3 at B3 hsplit ⊢
  refine hsplit.mono ?_
  rintro e w3 ⟨u, v, rfl, hU, hV, hb3⟩
  have B4 := below_next B3 hb3
  clear hsplit hb3 B3
  obtain ⟨ua, uc, rfl, ub, uo, y0, y1, rfl, hY0, hY1, ubl, cu0, cu1⟩ := two_of hU
  obtain ⟨va, vc, rfl, vb, vo, x0, x1, rfl, hX0, hX1, vbl, cv0, cv1⟩ := two_of hV
  obtain ⟨f0, r0, rfl, hn0, hr0⟩ := HX0.out
  obtain ⟨f1, r1, rfl, hn1⟩ := HX1.out
  obtain ⟨xb, xo, xc, rfl, xbl, xn⟩ := first_str hX0
  obtain ⟨zb, zo, zc, rfl, zbl, zn⟩ := first_str hX1
  obtain ⟨ya, yc, rfl, -⟩ := hY0.form
  rw [hn0] at xn
  rw [hn1] at zn
  rw [HY0.out] at cu0
  rw [hr0] at cv0 hX0
  have K : Hid (∀ W, Below w3.heap.size w3 W → W.cell? ⟨ub, uo, none⟩ = some (.slice ya 3 yc) ∧ W.cell? ⟨vb, vo, none⟩ = some (.slice (some ⟨xb, xo, none⟩) 4 xc) ∧ W.cell? ⟨vb, vo + 1, none⟩ = some (.slice (some ⟨zb, zo, none⟩) (r1.length + 1) zc) ∧ W.cell? ⟨xb, xo + 5, none⟩ = some (.string ⟨#[63, 48]⟩) ∧ W.cell? ⟨zb, zo + 5, none⟩ = some (.string ⟨#[63, 49]⟩)) := fun W h =>
    ⟨(h.cell (p := ⟨ub, uo, none⟩) ubl).trans cu0, (h.cell (p := ⟨vb, vo, none⟩) vbl).trans cv0, (h.cell (p := ⟨vb, vo + 1, none⟩) vbl).trans cv1, (h.cell (p := ⟨xb, xo + 5, none⟩) xbl).trans xn, (h.cell (p := ⟨zb, zo + 5, none⟩) zbl).trans zn⟩
  have B4' : Below w3.heap.size w3 w3 := Below.refl _ _
  have HX : Hid (IsE w3 (.slice (some ⟨xb, xo, none⟩) 4 xc) (f0 :: r0)) := hX0
  clear hU hV hn0 hn1 hr0 cu1 cv1 xn zn zbl xbl vbl ubl hY0 hY1 hX0 hX1 cu0
  generalize f0 :: r0 = X0 at *
  have C0 := K.out w3 B4'
  obtain ⟨k1, k2, k3, k4, k5⟩ := C0
  clear cv0
  go_wp2_with fail
  clear k1 k2 k3 k4 k5
  have n4 := (Below.refl w3.heap.size w3).alloc (Nat.le_refl _) (.cells #[.bool true, .bool false] 4)
  have hv1 := pValue_any X0 (.slice (some ⟨xb, xo, none⟩) 4 xc) [true, false] _ _ (by obtain ⟨x, r, e, -, h⟩ := HX0.out; rw [e]; simp [h]) HSM.out (by decide) (Sl.below HX.out n4) (lit2B w3 true false) (HG.out.below (below_next B4 n4))
  rw [HV1.out] at hv1
  have B5 : Below w3.heap.size w3 (w3.alloc (.cells #[.bool true, .bool false] 4)) := n4
  clear n4
  refine hv1.mono ?_
  rintro e w4 ⟨rfl, hb4⟩
  have B6 := below_next B5 hb4
  clear hv1 hb4 B5 B4'
  have C0 := K.out w4 B6
  obtain ⟨k1, k2, k3, k4, k5⟩ := C0
  go_wp2_with fail
  clear k1 k2 k3 k4 k5
  have n5 := (Below.refl w4.heap.size w4).alloc (Nat.le_refl _) (.cells #[.bool true] 4)
  have B7 := below_next B6 n5
  have hv2 := pValue_any X0 (.slice (some ⟨xb, xo, none⟩) 4 xc) [true] _ _ (by obtain ⟨x, r, e, -, h⟩ := HX0.out; rw [e]; simp [h]) HSM.out (by decide) (Sl.below HX.out B7) (lit1B w4 true) (HG.out.below (below_next B4 B7))
  rw [HV2.out] at hv2
  clear n5
  refine hv2.mono ?_
  rintro e w5 ⟨rfl, hb5⟩
  have B8 := below_next B7 hb5
  clear hv2 hb5 B7 B6
  go_wp2_with fail
  refine (New_ok w5 2 100 (by omega) (by omega) (by omega)).mono ?_
  rintro e w6 ⟨s, rfl, hS, hvars, hbud, hns, hb6, hbl⟩
  have B9 := below_next B8 hb6
  have C0 := K.out w6 B9
  obtain ⟨k1, k2, k3, k4, k5⟩ := C0
  have hmake := Make_any X0 (.slice (some ⟨xb, xo, none⟩) 4 xc) s w5.heap.size w6 (by obtain ⟨x, r, e, -, h⟩ := HX0.out; rw [e]; simp [h]) HSM.out hb6.size (fun W h => Sl.below HX.out (below_next B8 (hb6.trans h))) (fun W h => HG.out.below (below_next B4 (below_next B8 (hb6.trans h)))) hS hbl
  have HVA := Lib.hid hvars
  have HBU := Lib.hid hbud
  have HNS := Lib.hid hns
  have HB6 := Lib.hid hb6
  clear hvars hbud hns hbl hb6 hS
  go_wp2_with fail
  refine hmake.mono ?_
  rintro r w7 ⟨nv, er, s7, rfl, hI, hlen, hor⟩
  have hX4 : X0.length = 4 := by obtain ⟨x, r, e, -, h⟩ := HX0.out; rw [e]; simp [h]
  have B10 : Below w3.heap.size w3 w7 := below_next B8 (HB6.out.trans hI.below)
  have hden : er = 0 ∧ DenI s7 nv (fun l => Ux.valL l X0) := by
    rw [HVA.out] at hor hlen
    rw [HNS.out, hX4] at hlen
    rw [HMA.out, HBU.out] at hor
    rcases hor with ⟨h, _⟩ | ⟨_, _, _, h⟩ | ⟨_, h⟩
    · cases h
    · simp at hlen; omega
    · exact h
  obtain ⟨rfl, f, rfl, hf, hd⟩ := hden
  have hv7 : s7.vars = 2 := by rw [hI.more.vars]; exact HVA.out
  have hcnt := Count_any w7 s7 hI.store f hf
  rw [cnt_two hI.store hv7 hf hd, HCT.out, hI.more.sb] at hcnt
  clear hmake hor hlen hI hd hf hv7 hX4 k1 k2 k3 k4 k5 B9
  go_wp2_with fail
  refine hcnt.mono ?_
  rintro e w8 ⟨rfl, hb8⟩
  have B11 := below_next B10 hb8
  clear hcnt hb8 B10
  have C0 := K.out w8 B11
  obtain ⟨k1, k2, k3, k4, k5⟩ := C0
  go_wp2_with fail
  refine (Make_nil _ _).mono ?_
  rintro e w9 ⟨rfl, hw9⟩
  obtain rfl := hw9
  go_wp2_with fail
  go_ret
  exact ⟨rfl, below_next B4 B11⟩
end Go.Proofs.YtjnpkdpljmkpiaaGreatDoor
namespace Go.Proofs.YtjnpkdpljmkpiaaGreatDoor
namespace R
open Go.RowKit Go.Shelf Tx
def CutPost (e : List Nd) (base sp i : Nat) (A : List (List Nd)) (w : World) (av : Value) (r : Ending) (w' : World) : Prop :=
  ∃ v av', r = .returned v ∧ OwnE w.heap.size w' v ((Ux.cutF (T e i) A).1.flat 0) ∧ Blk w' sp #[av'] Tsp ∧ RwE base w' av' (Ux.cutF (T e i) A).2 ∧ Gs sp w av w' av'
structure CutIn (e : List Nd) (base sp i : Nat) (A : List (List Nd)) (w : World) (ev av : Value) : Prop where
  may : mayB e = true
  few : e.length ≤ 5000
  lt : i < e.length
  row : OwnE base w ev e
  here : Blk w sp #[av] Tsp
  atoms : RwE base w av A
  sp : base ≤ sp
  many : A.length + (T e i).size ≤ 500000
  lens : ∀ y ∈ A, y.length ≤ 1000000
set_option maxRecDepth 100000 in
set_option maxHeartbeats 4000000 in
theorem cut_leaf (e : List Nd) (base sp i : Nat) (A : List (List Nd)) (w : World) (ev av : Value) (x : Nd) (hx : e[i]? = some x) (hl : Ux.isLogic x.op = false) (h : CutIn e base sp i A w ev av) :
    Calls Tryz.prog 47 #[.pointer (some ⟨sp, 0, none⟩), ev, .int .i64 i] w (CutPost e base sp i A w av) := by
  obtain ⟨a, c, rfl, hc⟩ := h.row.form
  obtain ⟨n, hn⟩ : ∃ n, n = e.length := ⟨_, rfl⟩
  have hR := (mayB_iff e).1 h.may |>.inR
  have HF := Lib.hid (cut_leafF (A := A) hR hx hl)
  obtain ⟨a1, c1, hf1, -, hcell⟩ := h.row.isE.form
  cases hf1
  obtain ⟨b, o, rfl, hg⟩ := hcell w (Below.refl _ _) i x hx
  obtain ⟨k0, k1, k2, k3, k4, k5⟩ := nd_cells hg
  rw [← hn] at hc ⊢
  have hlt : (i : Int) < (n : Int) := by have := h.lt; omega
  have hi0 : (0 : Int) ≤ (i : Int) := by omega
  obtain ⟨X, hX⟩ : ∃ X, X = (T e i).flat 0 := ⟨_, rfl⟩
  have hXl : X.length ≤ e.length := by
    rw [hX, Fo.flat_len]
    have := T_size hR ((mayB_iff e).1 h.may).nodup h.lt
    have := h.lt; omega
  rw [← hX] at HF
  have nb := (Below.refl w.heap.size w).alloc (Nat.le_refl _) (.cells #[.int .i64 x.op, .int .i64 x.a, .int .i64 x.b, .int .i64 x.c, .int .i64 x.n, .string x.s] 42)
  have hsub : Hid (∀ W, Below w.heap.size w W → Calls Tryz.prog 57 #[.slice (some ⟨b, o, none⟩) n c, .int .i64 i] W fun r w' => ∃ v, r = .returned v ∧ OwnE W.heap.size w' v X ∧ Below W.heap.size W w') := fun W hW => by
    have hs := rSub_any e (.slice (some ⟨b, o, none⟩) n c) i W (by have := h.few; omega) (by rw [hn]; exact Sl.below h.row.isE hW)
    have e1 : subL e (i : Int) = X := by
      unfold subL; rw [if_pos ⟨by omega, by have := h.lt; omega, h.may⟩, hX]; simp
    rw [e1] at hs; exact hs
  have HIN := Lib.hid h
  have HN := Lib.hid hn
  have hlg := fun W => rIs_any x.op W
  rw [hl] at hlg
  clear hcell hg h hR hX hx hl hn
  go_enter Tryz.func47, Tryz.ntmps47
  go_wp2_with fail
  refine (hlg _).mono ?_
  rintro r w1 ⟨rfl, hw1⟩
  have hb1 : Below w.heap.size w w1 := by rw [hw1]; exact nb
  have HB1 := Lib.hid hb1
  clear hlg hw1 nb hb1 k0 k1 k2 k3 k4 k5
  go_wp2_with fail
  refine (hsub.out w1 HB1.out).mono ?_
  rintro r w2 ⟨xv, rfl, hxo, hb2⟩
  obtain ⟨xa, xc, rfl, hxc⟩ := hxo.form
  obtain ⟨xl, hxl⟩ : ∃ xl, xl = X.length := ⟨_, rfl⟩
  rw [← hxl] at hxo hxc hXl ⊢
  have HXl := Lib.hid hXl
  clear hXl
  have hb3 : Below w.heap.size w w2 := below_next HB1.out hb2
  have hsp3 := HIN.out.here.below hb3
  have hat3 := HIN.out.atoms.below hb3
  have HB3 := Lib.hid hb3
  have HXO := Lib.hid (hxo.mono (b2 := w.heap.size) HB1.out.size)
  obtain ⟨cs, fs⟩ := one_cell hsp3
  obtain ⟨av0, hav0, hav1⟩ := hat3.len
  obtain ⟨al, hal⟩ : ∃ al, al = A.length := ⟨_, rfl⟩
  rw [← hal] at hav1
  have hXb : X.length ≤ 1000000000 := by have := HXl.out; have := HIN.out.few; omega
  have hidx := find_any A X av (.slice xa xl xc) w2 (by have := HIN.out.many; omega)
    (RwE.sg (M := A) (q := id) (by simpa using hat3) (fun u y hu => ⟨u, rfl, OwnE.isE hu⟩)) hXb (fun y hy => by have := HIN.out.lens y hy; omega) hxo.isE
  obtain ⟨rfl, hav2⟩ := hav1
  have HSP3 := Lib.hid hsp3
  have HAT3 := Lib.hid hat3
  have HXL := Lib.hid hxl
  have HAL := Lib.hid hal
  clear hb3 hxo hsp3 hat3 hb2 hsub hxl hal HB1
  by_cases hm : X ∈ A
  · rw [firstI_idx.1 hm] at hidx
    obtain ⟨k, hk⟩ : ∃ k, k = A.idxOf X := ⟨_, rfl⟩
    rw [← hk] at hidx HF
    rw [if_pos hm] at HF
    have hkb : k < al := by rw [hk, HAL.out]; exact List.idxOf_lt_length_iff.2 hm
    have hk9 : k ≤ 500000 := by have := HIN.out.many; have := HAL.out; omega
    clear hm hk
    go_wp2_with fail
    refine hidx.mono ?_
    rintro r w4 ⟨rfl, q, hq⟩
    have hb4 : Below w2.heap.size w2 w4 := by rw [hq]; exact below_drawn (Below.refl _ _) q
    have HB4 := Lib.hid (below_next HB3.out hb4)
    have HSP4 := Lib.hid (HSP3.out.below hb4)
    have HAT4 := Lib.hid (HAT3.out.below hb4)
    have hit := rDigits_any k (by omega) w4
    have hk0 : (0 : Int) ≤ (k : Int) := by omega
    have hk1 : ¬ ((k : Int) < 0) := by omega
    clear hidx hb4 hq cs fs
    go_wp2_with fail
    refine hit.mono ?_
    rintro r w5 ⟨tx, rfl, htx, hb5⟩
    have htxs : tx.size ≤ 20 := by
      have h5 := (Fx.dec_is k).2.2.2.2 9 (by omega)
      rw [← list_size, htx]; omega
    have HNM : Hid ((⟨#[63]⟩ : ByteArray) ++ tx = Ux.atomName k) := by
      show _ = _
      refine bytes_ext ?_
      rw [concat_bytes, htx]; simp [Ux.atomName]
    clear htx
    have hj := rJoin_any 3 0 ((⟨#[63]⟩ : ByteArray) ++ tx) [] (.slice none 0 0) w5 Sg.nil_ (fun F hF => by simp at hF) (by simp [cat, Fo.size]) (by omega) (fun _ => by
      rw [kids_leaf, if_neg (by omega), if_neg (by omega), if_neg (by omega), if_neg (by omega), if_neg (by omega)]; rfl)
    have HB5 := Lib.hid (below_next HB4.out hb5)
    have HSP5 := Lib.hid (HSP4.out.below hb5)
    have HAT5 := Lib.hid (HAT4.out.below hb5)
    clear hit hb5
    go_wp2_with fail
    refine hj.mono ?_
    rintro r w6 ⟨v6, rfl, ho6, hb6⟩
    have HB6 := Lib.hid (below_next HB5.out hb6)
    have HSP6 := Lib.hid (HSP5.out.below hb6)
    have HAT6 := Lib.hid (HAT5.out.below hb6)
    have HO6 : Hid (OwnE w.heap.size w6 v6 ((Fo.tr 3 0 (Ux.atomName k) .no .no).flat 0)) := by
      show OwnE _ _ _ _
      rw [HNM.out] at ho6
      exact ho6.mono HB5.out.size
    clear hj hb6 ho6
    go_wp2_with fail
    go_ret
    exact ⟨v6, _, rfl, by rw [HF.out]; exact HO6.out, HSP6.out, by rw [HF.out]; exact HAT6.out, Gs.of_below _ HB6.out⟩
  · rw [firstI_idx.2 hm] at hidx
    have hix : A.idxOf X = al := by rw [HAL.out]; exact List.idxOf_eq_length hm
    rw [hix, if_neg hm] at HF
    have hk9 : al ≤ 500000 := by have := HIN.out.many; have := HAL.out; omega
    clear hm hix
    go_wp2_with fail
    refine hidx.mono ?_
    rintro r w4 ⟨rfl, q, hq⟩
    have hb4 : Below w2.heap.size w2 w4 := by rw [hq]; exact below_drawn (Below.refl _ _) q
    have HB4 := Lib.hid (below_next HB3.out hb4)
    have hsp4 := HSP3.out.below hb4
    have hat4 := HAT3.out.below hb4
    have hxo4 := HXO.out.below hb4
    clear hidx hb4 hq cs fs
    obtain ⟨cs, fs⟩ := one_cell hsp4
    obtain ⟨vs, hrow, hvs⟩ := hat4.row
    rw [← HAL.out] at hrow
    have hspl := hsp4.lt
    have hbl : base ≤ w4.heap.size := by have := HIN.out.sp; omega
    have hne : (Value.slice av0 al hav0).ownBlock ≠ some sp := fun e => by
      rcases hrow.2 with ⟨h1, _⟩ | ⟨g, cap, cur, h1, _, hg, _⟩
      · rw [h1] at e; cases e
      · rw [h1] at e; cases e
        unfold Blk at hsp4; rw [hsp4] at hg; cases hg
    have HSP4 := Lib.hid hsp4
    have HAT4 := Lib.hid hat4
    have HXO4 := Lib.hid hxo4
    have HVS := Lib.hid hvs
    have HROW := Lib.hid hrow
    have HNE := Lib.hid hne
    have hk0 : (0 : Int) ≤ (al : Int) := by omega
    clear hsp4 hat4 hxo4 hvs
    go_wp2_with (at_builtin; refine wpList_app rowE rfl _ _ rfl base _ _ _ rfl (hrow.alloc _) ⟨w4.heap.size, 0, none⟩ 1 [.slice xa xl xc] rfl rfl ?c1 ?c2 ?c3 ?c4 (w4.heap.size + 1) ?c5 ?_)
    case c1 => exact World.news_of_block (heap_alloc_new w4 _)
    case c2 => simp [Value.oneCell']
    case c3 => omega
    case c4 => simp; omega
    case c5 => simp
    intro g' cap' w1 hown1 hgrow1 hat1 hlt1 hcap1
    have hS1 : Blk w1 sp #[.slice av0 al hav0] Tsp := by
      unfold Blk
      rw [hgrow1.block sp (by show sp < (w4.heap.push _).size; simp; omega) (fun e => hne e.symm)]
      exact (Below.heap_alloc _ _ _ hspl).trans HSP4.out
    obtain ⟨cs1, fs1⟩ := one_cell hS1
    have hgrow2 : ((w4.alloc (.cells #[.slice xa xl xc] 30)).drew).grownBy w1 (Value.slice av0 al hav0).ownBlock := ⟨hgrow1.os, hgrow1.tape, hgrow1.output, hgrow1.size, hgrow1.block⟩
    have HM := Lib.hid (atom_more HAL.out.symm HSP4.out hrow HVS.out (HXO4.out.mono (by have := HIN.out.sp; have := HIN.out.here.lt; omega)) hne hown1 hgrow2 hat1)
    clear hS1 hown1 hgrow1 hgrow2 hat1 hlt1 hcap1 hrow cs fs hne
    go_wp2_with fail
    obtain ⟨hS, hA, hG⟩ := HM.out
    generalize hW2 : w1.setCell ⟨sp, 0, none⟩ (.slice (some ⟨g', 0, none⟩) (al + 1) cap') = W2 at hS hA hG ⊢
    have HS := Lib.hid hS
    have HA := Lib.hid hA
    have HG : Hid (Gs sp w (.slice av0 al hav0) W2 (.slice (some ⟨g', 0, none⟩) (al + 1) cap')) := (Gs.of_below _ HB4.out).trans hG
    clear hW2 hS hA hG cs1 fs1 HM
    have hit := rDigits_any al (by omega) W2
    go_wp2_with fail
    refine hit.mono ?_
    rintro r w5 ⟨tx, rfl, htx, hb5⟩
    have htxs : tx.size ≤ 20 := by
      have h5 := (Fx.dec_is al).2.2.2.2 9 (by omega)
      rw [← list_size, htx]; omega
    have HNM : Hid ((⟨#[63]⟩ : ByteArray) ++ tx = Ux.atomName al) := by
      show _ = _
      refine bytes_ext ?_
      rw [concat_bytes, htx]; simp [Ux.atomName]
    clear htx
    have hj := rJoin_any 3 0 ((⟨#[63]⟩ : ByteArray) ++ tx) [] (.slice none 0 0) w5 Sg.nil_ (fun F hF => by simp at hF) (by simp [cat, Fo.size]) (by omega) (fun _ => by
      rw [kids_leaf, if_neg (by omega), if_neg (by omega), if_neg (by omega), if_neg (by omega), if_neg (by omega)]; rfl)
    have HS5 := Lib.hid (HS.out.below hb5)
    have HA5 := Lib.hid (HA.out.below hb5)
    have HG5 := Lib.hid (HG.out.then hb5)
    clear hit hb5
    go_wp2_with fail
    refine hj.mono ?_
    rintro r w6 ⟨v6, rfl, ho6, hb6⟩
    have HS6 := Lib.hid (HS5.out.below hb6)
    have HA6 := Lib.hid (HA5.out.below hb6)
    have HG6 := Lib.hid (HG5.out.then hb6)
    have HO6 : Hid (OwnE w.heap.size w6 v6 ((Fo.tr 3 0 (Ux.atomName al) .no .no).flat 0)) := by
      show OwnE _ _ _ _
      rw [HNM.out] at ho6
      exact ho6.mono HG5.out.size
    clear hj hb6 ho6
    go_wp2_with fail
    go_ret
    exact ⟨v6, _, rfl, by rw [HF.out]; exact HO6.out, HS6.out, by rw [HF.out]; exact HA6.out, HG6.out⟩
end R
end Go.Proofs.YtjnpkdpljmkpiaaGreatDoor
namespace Go.Proofs.YtjnpkdpljmkpiaaGreatDoor
namespace R
open Go.RowKit Go.Shelf Tx
set_option maxRecDepth 100000 in
set_option maxHeartbeats 8000000 in
theorem cut_logic (e : List Nd) (base sp i : Nat) (A : List (List Nd)) (w : World) (ev av : Value) (x : Nd) (hx : e[i]? = some x) (hl : Ux.isLogic x.op = true) (h : CutIn e base sp i A w ev av)
    (IH : Hid (∀ j, j < i → ∀ A w av, CutIn e base sp j A w ev av → Calls Tryz.prog 47 #[.pointer (some ⟨sp, 0, none⟩), ev, .int .i64 j] w (CutPost e base sp j A w av))) :
    Calls Tryz.prog 47 #[.pointer (some ⟨sp, 0, none⟩), ev, .int .i64 i] w (CutPost e base sp i A w av) := by
  obtain ⟨a, c, rfl, hc⟩ := h.row.form
  obtain ⟨n, hn⟩ : ∃ n, n = e.length := ⟨_, rfl⟩
  have hR := (mayB_iff e).1 h.may |>.inR
  have hin := hR i x hx
  have htree := kidT_tree hR hx
  have HT := Lib.hid htree
  have hTs := T_size hR ((mayB_iff e).1 h.may).nodup h.lt
  have hKS : (kidT e x (kids x).length).size + 1 ≤ 5000 := by
    have h1 := hTs
    rw [htree] at h1; simp only [Fo.size] at h1
    have := h.lt; have := h.few; omega
  have HKS : Hid ((T e i).size = (kidT e x (kids x).length).size + 1) := by show _ = _; rw [htree]; simp [Fo.size]
  obtain ⟨a1, c1, hf1, -, hcell⟩ := h.row.isE.form
  cases hf1
  obtain ⟨b, o, rfl, hg⟩ := hcell w (Below.refl _ _) i x hx
  obtain ⟨k0, k1, k2, k3, k4, k5⟩ := nd_cells hg
  rw [← hn] at hc ⊢
  have hlt : (i : Int) < (n : Int) := by have := h.lt; omega
  have hi0 : (0 : Int) ≤ (i : Int) := by omega
  obtain ⟨xop, xa, xb, xc, xn, xs⟩ := x
  simp only [] at k0 k1 k2 k3 k4 k5 hl
  have nb := (Below.refl w.heap.size w).alloc (Nat.le_refl _) (.cells #[.int .i64 xop, .int .i64 xa, .int .i64 xb, .int .i64 xc, .int .i64 xn, .string xs] 42)
  have kb := Blk.new w #[.int .i64 xop, .int .i64 xa, .int .i64 xb, .int .i64 xc, .int .i64 xn, .string xs] 42
  have HIN := Lib.hid h
  have HN := Lib.hid hn
  have HL := Lib.hid hl
  have HINR := Lib.hid hin
  have hlg := fun W => rIs_any xop W
  rw [hl] at hlg
  have HKB := Lib.hid kb
  have HNB0 := Lib.hid nb
  have hspw := h.here.lt
  have hspb := h.sp
  clear hcell hg h hR hx hl hn htree hTs hin kb
  go_enter Tryz.func47, Tryz.ntmps47
  go_wp2_with fail
  refine (hlg _).mono ?_
  rintro r w1 ⟨rfl, hw1⟩
  have hb1 : Below w.heap.size w w1 := by rw [hw1]; exact nb
  have hkb1 : Blk w1 w.heap.size #[.int .i64 xop, .int .i64 xa, .int .i64 xb, .int .i64 xc, .int .i64 xn, .string xs] 42 := by rw [hw1]; exact HKB.out
  obtain ⟨p0, p1, p2, p3, p4, p5⟩ := six_cells hkb1
  have HB1 := Lib.hid hb1
  have HKB1 := Lib.hid hkb1
  clear hlg hw1 nb hb1 hkb1 k0 k1 k2 k3 k4 k5
  go_wp2_with fail
  refine (rKids_any ⟨xop, xa, xb, xc, xn, xs⟩ w1).mono ?_
  rintro r w2 ⟨kv, rfl, hkr, hb2⟩
  obtain ⟨ka, kc, hkv, hkc⟩ := hkr.form
  obtain ⟨kn, hkn⟩ : ∃ kn, kn = (kids ⟨xop, xa, xb, xc, xn, xs⟩).length := ⟨_, rfl⟩
  have hk3 := kids_len ⟨xop, xa, xb, xc, xn, xs⟩
  rw [← hkn] at hkv hkc hk3
  subst hkv
  have hB2 := below_next HB1.out hb2
  have HB2 := Lib.hid hB2
  have HSP2 := Lib.hid (HIN.out.here.below hB2)
  have HAT2 := Lib.hid (HIN.out.atoms.below hB2)
  have HRW2 := Lib.hid (HIN.out.row.below hB2)
  have HKR := Lib.hid hkr
  have HKB2 := Lib.hid (HKB1.out.below hb2)
  have HKN := Lib.hid hkn
  obtain ⟨nb, hnb⟩ : ∃ nb, nb = w2.heap.size := ⟨_, rfl⟩
  have HNB := Lib.hid hnb
  have hnbs : sp < nb := by have := hB2.size; omega
  have hnbw0 : w.heap.size ≤ nb := by have := hB2.size; omega
  clear hb2 hB2 hkr hkn p0 p1 p2 p3 p4 p5 hnb HKB1 HB1
  go_wp2_with fail
  go_loopw [8, 10] (fun pv iv wr => ∃ (t : Nat) (Fs : List Fo) (av' : Value), iv = .int .i64 t ∧ t ≤ kn ∧ RwE nb wr pv (Fs.map (Fo.flat 0)) ∧ Fs.length = t ∧ (∀ F ∈ Fs, F.count = 1) ∧ cat Fs = (Ux.cutF (kidT e ⟨xop, xa, xb, xc, xn, xs⟩ t) A).1 ∧
    Blk wr sp #[av'] Tsp ∧ RwE base wr av' (Ux.cutF (kidT e ⟨xop, xa, xb, xc, xn, xs⟩ t) A).2 ∧ Gs sp w2 av wr av' ∧ (∀ g, pv.ownBlock = some g → av'.ownBlock ≠ some g)) (fun _ iv _ => kn - (intOf iv).toNat)
  case atStart => exact ⟨0, [], av, rfl, Nat.zero_le _, RwE.nil_ _ _, rfl, (fun F hF => by simp at hF), rfl, HSP2.out, HAT2.out, Gs.refl _ _ _, fun g hg => by cases hg⟩
  case round =>
    obtain ⟨t, Fs, av', rfl, ht, hP, hFl, hF1, hcat, hS, hA, hG, hd⟩ := hrel
    have hbase : base ≤ wr.heap.size := by have := hS.lt; omega
    have hkr := hG.rowI HSP2.out HAT2.out HKR.out
    have hrw := hG.ownE HSP2.out HAT2.out HRW2.out
    have hkb := hG.blk HSP2.out HAT2.out HKB2.out (by decide) (by decide)
    have hnbw : nb ≤ wr.heap.size := by have := hG.size; have := HNB.out; omega
    by_cases hlt2 : t < kn
    · obtain ⟨k, hk⟩ : ∃ k, (kids ⟨xop, xa, xb, xc, xn, xs⟩)[t]? = some k := ⟨_, List.getElem?_eq_getElem (by have := HKN.out; omega)⟩
      obtain ⟨hk0, hki⟩ := HINR.out k (List.mem_of_getElem? hk)
      obtain ⟨j, rfl⟩ : ∃ j : Nat, k = (j : Int) := ⟨k.toNat, by omega⟩
      have hji : j < i := by omega
      obtain ⟨g, rfl, hg1, hg2, cy, -⟩ := hkr.at hk
      have HKT := Lib.hid (kidT_next (e := e) hk)
      obtain ⟨vs, hrow, hvs⟩ := hP.row
      obtain ⟨pa, pc, hpv, hpc⟩ := hP.len
      rw [List.length_map, hFl] at hrow hpc hpv
      subst hpv
      have hsz := kidT_size e ⟨xop, xa, xb, xc, xn, xs⟩ (t + 1)
      rw [HKT.out, Fo.size_app] at hsz
      have hTk : ((j : Int)).toNat = j := by simp
      rw [hTk] at hsz HKT
      have hlenA := Ux.cut_len (kidT e ⟨xop, xa, xb, xc, xn, xs⟩ t) A
      have hcin : CutIn e base sp j (Ux.cutF (kidT e ⟨xop, xa, xb, xc, xn, xs⟩ t) A).2 wr (.slice (some ⟨b, o, none⟩) e.length c) av' :=
        { may := HIN.out.may, few := HIN.out.few, lt := by have := HIN.out.lt; omega, row := hrw, here := hS, atoms := hA, sp := HIN.out.sp
          many := by have := HIN.out.many; have := HKS.out; omega
          lens := fun y hy => by
            rcases cut_lens _ _ y hy with h | h
            · exact HIN.out.lens y h
            · omega }
      have hcall := IH.out j hji _ wr av' hcin
      rw [← HN.out] at hcall
      have HS := Lib.hid hS
      have HA := Lib.hid hA
      have HG := Lib.hid hG
      have HP := Lib.hid hP
      have HD := Lib.hid hd
      have HF1 := Lib.hid hF1
      have HFL := Lib.hid hFl
      have HCAT := Lib.hid hcat
      have HONE : Hid ((T e j).count = 1) := by
        obtain ⟨y, hy⟩ : ∃ y, e[j]? = some y := ⟨_, List.getElem?_eq_getElem (by have := HIN.out.lt; omega)⟩
        exact (T_ops ((mayB_iff e).1 HIN.out.may).inR hy).2
      have htk : (t : Int) < (kn : Int) := by omega
      have ht0 : (0 : Int) ≤ (t : Int) := by omega
      clear hS hA hG hP hd hF1 hFl hcat hk hkr hrw hkb hcin hrow hvs hlenA hsz hTk
      go_wp2_with fail
      refine hcall.mono ?_
      rintro r w3 ⟨v3, av3, rfl, ho3, hS3, hA3, hG3⟩
      obtain ⟨hP3, hd3⟩ := hG3.rwE HS.out HA.out HP.out HD.out
      obtain ⟨F3, hF3⟩ : ∃ F3, F3 = (Ux.cutF (T e j) (Ux.cutF (kidT e ⟨xop, xa, xb, xc, xn, xs⟩ t) A).2).1 := ⟨_, rfl⟩
      rw [← hF3] at ho3
      obtain ⟨ya, yc, rfl, hyc⟩ := ho3.form
      obtain ⟨yl, hyl⟩ : ∃ yl, yl = (F3.flat 0).length := ⟨_, rfl⟩
      rw [← hyl] at ho3 hyc ⊢
      obtain ⟨vs, hrow, hvs⟩ := hP3.row
      rw [List.length_map, HFL.out] at hrow
      have hn3 : nb ≤ w3.heap.size := by have := hG3.size; omega
      have HO3 := Lib.hid (ho3.mono (b2 := nb) hnbw)
      have HS3 := Lib.hid hS3
      have HA3 := Lib.hid hA3
      have HG3 := Lib.hid (HG.out.trans hG3)
      have HVS := Lib.hid hvs
      have HD3 := Lib.hid hd3
      have HF3 := Lib.hid hF3
      have hb3 : t ≤ 3 := by omega
      have HP3 := Lib.hid hP3
      have HLOW := Lib.hid (fun g hg => hP3.low g hg)
      clear hcall ho3 hS3 hA3 hG3 hvs hd3 hF3 hyl HS HA HG HP HD hP3 cy
      go_wp2_with (at_builtin; refine wpList_app rowE rfl _ _ rfl nb _ _ _ rfl (hrow.alloc _) ⟨w3.heap.size, 0, none⟩ 1 [.slice ya yl yc] rfl rfl ?c1 ?c2 ?c3 ?c4 (w3.heap.size + 1) ?c5 ?_)
      case c1 => exact World.news_of_block (heap_alloc_new w3 _)
      case c2 => simp [Value.oneCell']
      case c3 => omega
      case c4 => simp; omega
      case c5 => simp
      intro g4 cap w4 hown hgrow hat hlt4 hcap
      have hgr : Gr w3 (.slice pa t pc) w4 (.slice (some ⟨g4, 0, none⟩) (t + 1) cap) := gr_append hgrow hat
      have HP4 : Hid (RwE nb w4 (.slice (some ⟨g4, 0, none⟩) (t + 1) cap) ((Fs ++ [F3]).map (Fo.flat 0))) := by
        show RwE _ _ _ _
        rw [List.map_append]
        exact RwE.push (by rw [List.length_map, HFL.out]) hrow HVS.out HO3.out hown hgrow
      have HS4 : Hid (Blk w4 sp #[av3] Tsp) := hgr.blk HS3.out (fun h => by have := (HLOW.out sp h).1; omega)
      have HA4 := Lib.hid (HA3.out.gr hgr hrow HD3.out)
      have HG4 : Hid (Gs sp w2 av w4 av3) := by
        refine ⟨hgr.os.trans HG3.out.os, hgr.tape.trans HG3.out.tape, hgr.output.trans HG3.out.output, Nat.le_trans HG3.out.size hgr.size, fun k hk hks hn => ?_, HG3.out.own⟩
        rw [hgr.block k (Nat.lt_of_lt_of_le hk HG3.out.size) (fun e => by have := (HLOW.out k e).1; have := HNB.out; omega), HG3.out.block k hk hks hn]
      have HD4 : Hid (∀ g, (Value.slice (some ⟨g4, 0, none⟩) (t + 1) cap).ownBlock = some g → av3.ownBlock ≠ some g) := fun g hg e => by
        cases hg
        rcases hat with h | h
        · exact HD3.out g4 h e
        · have := (HA3.out.low g4 e).2; omega
      have HC4 : Hid (cat (Fs ++ [F3]) = (Ux.cutF (kidT e ⟨xop, xa, xb, xc, xn, xs⟩ (t + 1)) A).1 ∧ (Ux.cutF (T e j) (Ux.cutF (kidT e ⟨xop, xa, xb, xc, xn, xs⟩ t) A).2).2 = (Ux.cutF (kidT e ⟨xop, xa, xb, xc, xn, xs⟩ (t + 1)) A).2) := by
        show _ ∧ _
        rw [HKT.out, Ux.cut_app, cat_snoc, HCAT.out, HF3.out]; exact ⟨rfl, rfl⟩
      have HF4 : Hid (∀ F ∈ Fs ++ [F3], F.count = 1) := fun F hF => by
        rcases List.mem_append.1 hF with h | h
        · exact HF1.out F h
        · rw [List.mem_singleton.1 h, HF3.out, Ux.cut_count]; exact HONE.out
      clear hown hgrow hat hgr hrow hlt4 hcap
      go_wp2_with fail
      go_roundw
      case rel => exact ⟨t + 1, Fs ++ [F3], av3, by go_num, by omega, HP4.out, by rw [List.length_append, HFL.out]; rfl, HF4.out, HC4.out.1, HS4.out, by rw [← HC4.out.2]; exact HA4.out, HG4.out, HD4.out⟩
      case measure => simp [intOf]; omega
    · have hte : t = kn := by omega
      subst hte
      have hcs := hkb
      obtain ⟨p0, p1, p2, p3, p4, p5⟩ := six_cells hcs
      have HF : Hid ((Ux.cutF (T e i) A).1 = .tr xop xn ByteArray.empty (cat Fs) .no ∧ (Ux.cutF (T e i) A).2 = (Ux.cutF (kidT e ⟨xop, xa, xb, xc, xn, xs⟩ t) A).2) := by
        show _ ∧ _
        rw [HT.out, hcat, HKN.out]
        simp only [Ux.cutF, HL.out, if_true, and_self]
      have hops := Ux.logic_ops HL.out
      obtain ⟨pa, pc, hpv, -⟩ := hP.len
      rw [List.length_map, hFl] at hpv
      subst hpv
      have hcsz : (cat Fs).size ≤ 5000 := by
        rw [hcat]
        have := Ux.cut_size (kidT e ⟨xop, xa, xb, xc, xn, xs⟩ t) A
        have := kidT_size e ⟨xop, xa, xb, xc, xn, xs⟩ t
        omega
      have hj := rJoin_any xop xn ByteArray.empty Fs (.slice pa t pc) wr (hP.sg fun u F h => ⟨u, rfl, h.isE⟩) hF1 (by omega) (by omega) (fun _ => by rw [logic_kids (a := xa) (b := xb) (c := xc) (s := ByteArray.empty) HL.out, hFl]; exact HKN.out.symm)
      have hjf : joinF xop xn ByteArray.empty Fs = .tr xop xn ByteArray.empty (cat Fs) .no := by unfold joinF; rw [if_neg hops.1]
      rw [hjf] at hj
      have HS := Lib.hid hS
      have HA := Lib.hid hA
      have HG : Hid (Gs sp w av wr av') := (Gs.of_below _ HB2.out).trans hG
      clear hS hA hG hP hd hF1 hFl hcat hkr hrw hkb hcs hjf hcsz hops
      go_wp2_with fail
      refine hj.mono ?_
      rintro r w3 ⟨v3, rfl, ho3, hb3⟩
      have HS3 := Lib.hid (HS.out.below hb3)
      have HA3 := Lib.hid (HA.out.below hb3)
      have HG3 := Lib.hid (HG.out.then hb3)
      have HO3 := Lib.hid (ho3.mono (b2 := w.heap.size) HG.out.size)
      clear hj ho3 hb3 p0 p1 p2 p3 p4 p5
      go_wp2_with fail
      go_ret
      exact ⟨v3, av', rfl, by rw [HF.out.1]; exact HO3.out, HS3.out, by rw [HF.out.2]; exact HA3.out, HG3.out⟩
theorem cut_any (e : List Nd) (base sp : Nat) (ev : Value) : ∀ (i : Nat) (A : List (List Nd)) (w : World) (av : Value), CutIn e base sp i A w ev av →
    Calls Tryz.prog 47 #[.pointer (some ⟨sp, 0, none⟩), ev, .int .i64 i] w (CutPost e base sp i A w av) := by
  intro i
  induction i using Nat.strongRecOn with
  | _ i ih =>
    intro A w av h
    obtain ⟨x, hx⟩ : ∃ x, e[i]? = some x := ⟨_, List.getElem?_eq_getElem h.lt⟩
    cases hl : Ux.isLogic x.op with
    | false => exact cut_leaf e base sp i A w ev av x hx hl h
    | true => exact cut_logic e base sp i A w ev av x hx hl h (Lib.hid (fun j hj A w av h => ih j hj A w av h))
end R
end Go.Proofs.YtjnpkdpljmkpiaaGreatDoor
