/- The law AtomsPut, whatever its argument: the walk. -/
import Derived.Test.YtjnpkdpljmkpiaaGreatDoorId
import Derived.Test.YtjnpkdpljmkpiaaGreatDoorIc
import Derived.Test.YtjnpkdpljmkpiaaGreatDoorJ35
namespace Go.Proofs.YtjnpkdpljmkpiaaGreatDoor
open Go.RowKit Go.Shelf Tx

theorem rowStr : RowTy Tryz.prog 35 9 1 16 := RowTy.mk' Tryz.underlying35 (z := .string ByteArray.empty) (by kernel_rfl) rfl (by decide)
theorem below_growth {B : Nat} {w w' : World} {row : Option Nat} (h : w.grownBy w' row) (hB : B ≤ w.heap.size) (hr : ∀ q, row = some q → B ≤ q) : Below B w w' :=
  ⟨h.os, h.tape, h.output, h.size, fun k hk => h.block k (by omega) (fun e => by have := hr k e.symm; omega)⟩
theorem str_row (n : Nat) : (namesN n).map Value.string = (namesN n).flatMap strC := by
  induction namesN n with
  | nil => rfl
  | cons a r ih => rw [List.map_cons, List.flatMap_cons, ih]; rfl

set_option maxRecDepth 100000 in
set_option maxHeartbeats 8000000 in
theorem atomsPut_any (l : List (List Nd)) (v : Value) (w : World) (G : Gl w) (hv : Sg 1 IsL w v l) (hlm : l.length ≤ maxLen) (hM : ∀ e ∈ l, e.length ≤ maxLen) (_hs : ∀ e ∈ l, ∀ y ∈ e, y.s.size ≤ 281474976710656) :
    Calls Tryz.prog 5 #[v] w fun r w' => r = .returned (.bool true) ∧ Below w.heap.size w w' := by
  have hfew := Few_any l v w hlm hM hv
  have hlive := fun W (hW : Below w.heap.size w W) => live_any W (G.below hW)
  obtain ⟨q, hq⟩ : ∃ q, q = fewB l := ⟨_, rfl⟩
  rw [← hq] at hfew
  have HV := Lib.hid hv
  have HLV := Lib.hid hlive
  have HG := Lib.hid G
  obtain ⟨a, c, rfl, hc, hx0⟩ := rowX hv
  have HX0 := Lib.hid hx0
  obtain ⟨n, hn⟩ : ∃ n, n = l.length := ⟨_, rfl⟩
  rw [← hn] at hfew HV hc ⊢
  have HN := Lib.hid hn
  have HQ := Lib.hid hq
  clear hv hlive G hq hn hlm hM hx0
  cases q
  · go_enter Tryz.func5, Tryz.ntmps5
    go_wp2_with fail
    refine hfew.mono ?_
    rintro r w1 ⟨rfl, rfl⟩
    clear hfew
    go_wp2_with fail
    refine (HLV.out _ (Below.refl _ _)).mono ?_
    rintro r w3 ⟨rfl, hb3⟩
    go_wp2_with fail
    go_ret
    exact ⟨rfl, hb3⟩
  · obtain ⟨hl, hM⟩ := few_parts HQ.out.symm
    have h1 := Split_any l (.slice a n c) w (by omega) (fun e he => by have := hM e he; omega) HV.out HG.out
    have hon := fun h => putF_of hM h
    have hno := splitR_not (l := l)
    unfold SplitPost at h1
    revert h1 hon hno
    generalize splitR l = R
    obtain ⟨A, O, er⟩ := R
    intro h1 hon hno
    simp only at hon h1 hno
    have HON := Lib.hid hon
    have HNO := Lib.hid hno
    have hn30 : n ≤ 30 := by have := HN.out; omega
    clear hl hM HQ HV hon hno
    go_enter Tryz.func5, Tryz.ntmps5
    go_wp2_with fail
    refine hfew.mono ?_
    rintro r w0 ⟨rfl, rfl⟩
    clear hfew
    go_wp2_with fail
    refine h1.mono ?_
    rintro r w1 ⟨u1, v1, rfl, hu1, hv1, hb1⟩
    have HB1 := Lib.hid hb1
    clear h1 hb1
    by_cases her : er = 0
    · subst her
      have hF := HON.out rfl
      have HF := Lib.hid hF
      have hsg := sg_of_rwe hu1
      have HSG := Lib.hid hsg
      obtain ⟨ua, uc, rfl, huc, -⟩ := rowX hsg
      obtain ⟨oa, oc, rfl, hoc, hox⟩ := rowX (sg_of_rwe hv1)
      have HOX := Lib.hid hox
      have hm := hF.len
      obtain ⟨m, hmm⟩ : ∃ m, m = A.length := ⟨_, rfl⟩
      have hol : O.length = n := by rw [hF.outs]; exact HN.out.symm
      rw [← hmm] at huc hm HSG ⊢
      rw [hol] at hoc ⊢
      have HM := Lib.hid hmm
      have HOL := Lib.hid hol
      have e0 : ((n : Int) != (n : Int)) = false := by simp
      obtain ⟨nb, hnb⟩ : ∃ nb, nb = w1.heap.size := ⟨_, rfl⟩
      have HNB := Lib.hid hnb
      clear HON HNO hF hu1 hv1 hsg hmm hol hox hnb
      go_wp2_with fail
      go_loopw [6, 7] (fun nv iv wr => ∃ t : Nat, iv = .int .i64 t ∧ t ≤ m ∧ Below nb w1 wr ∧ wr.ownsRow nb 9 1 nv t ((namesN t).map Value.string)) (fun _ iv _ => m - (intOf iv).toNat)
      case atStart => exact ⟨0, rfl, Nat.zero_le _, Below.refl _ _, World.ownsRow_nil _ _ _ _⟩
      case round =>
        obtain ⟨t, rfl, ht, hB, hrow⟩ := hrel
        have HB : Hid (Below w1.heap.size w1 wr) := by show Below _ _ _; rw [← HNB.out]; exact hB
        have hnbs : nb ≤ wr.heap.size := by rw [HNB.out]; exact hB.size
        by_cases hlt : t < m
        · have hdig := rDigits_any t (by omega) wr
          have HR := Lib.hid hrow
          clear hB hrow
          go_wp2_with fail
          refine hdig.mono ?_
          rintro r w2 ⟨tx, rfl, htx, hb2⟩
          have hnm : (⟨#[63]⟩ : ByteArray) ++ tx = Ux.atomName t := by
            refine bytes_ext ?_
            rw [concat_bytes, htx]; simp [Ux.atomName]
          have htxs : tx.size ≤ 20 := by
            have h5 := (Fx.dec_is t).2.2.2.2 9 (by omega)
            rw [← list_size, htx]; omega
          have hrow2 := below_row hb2 HR.out
          have HB2 := Lib.hid (below_next HB.out hb2)
          have hnbs2 : nb ≤ w2.heap.size := Nat.le_trans hnbs hb2.size
          have HNM := Lib.hid hnm
          have HR2 := Lib.hid hrow2
          clear hdig htx hnm hb2 HR hrow2
          go_wp2_with (at_builtin; refine wpList_app rowStr rfl _ _ rfl nb _ _ _ rfl (HR2.out.alloc _) ⟨w2.heap.size, 0, none⟩ 1 [.string ((⟨#[63]⟩ : ByteArray) ++ tx)] rfl rfl (cell_one_new _ _ _) (by simp [Value.oneCell']) (by omega) (by simp; omega) (w2.heap.size + 1) (by simp) ?_)
          intro g cap w4 hown hgrow _ _ _
          have hb4 : Below nb w1 w4 := by
            have h3 : Below nb w1 w2 := by rw [HNB.out]; exact HB2.out
            exact (h3.alloc hnbs2 _).trans (below_growth hgrow (by simp; omega) (fun q hq => (HR2.out.lt q hq).1))
          have hown2 : w4.ownsRow nb 9 1 (.slice (some ⟨g, 0, none⟩) (t + 1) cap) (t + 1) ((namesN (t + 1)).map Value.string) := by
            rw [namesN_snoc, List.map_append, ← HNM.out]; exact hown
          have HB4 := Lib.hid hb4
          have HO4 := Lib.hid hown2
          clear hgrow hown hb4 hown2 HNM HR2 htxs
          go_wp2_with fail
          go_roundw
          case rel => exact ⟨t + 1, by go_num, by omega, HB4.out, HO4.out⟩
          case measure => simp [intOf]; omega
        · have hte : t = m := by omega
          subst hte
          have hnames := Sl.own (enc := strC) (k := 1) (l := namesN t) strC_len (by rw [← str_row]; exact hrow) (namesN_len t)
          have HNS0 := Lib.hid hnames
          obtain ⟨na, nc, hnv, hnc, -⟩ := hnames.form
          subst hnv
          have HNS : Hid (Sl strC 1 wr (.slice na t nc) (namesN t)) := by have := HNS0.out; rw [namesN_len] at this; exact this
          rw [namesN_len] at hnc ⊢
          clear hrow hB hnames HNS0
          go_wp2_with fail
          obtain ⟨wo, rfl⟩ : ∃ wo : World, wo = wr := ⟨_, rfl⟩
          go_loopw [8] (fun iv wr => ∃ s : Nat, iv = .int .i64 s ∧ s ≤ n ∧ Below wo.heap.size wo wr) (fun iv _ => n - (intOf iv).toNat)
          case atStart => exact ⟨0, rfl, Nat.zero_le _, Below.refl _ _⟩
          case round =>
            obtain ⟨s, rfl, hs, hB⟩ := hrel
            have HB7 := Lib.hid hB
            have HBW : Hid (Below w1.heap.size w1 wr) := below_next HB.out hB
            clear hB
            by_cases hlt2 : s < n
            · obtain ⟨x, hx⟩ : ∃ x, O[s]? = some x := ⟨_, List.getElem?_eq_getElem (by have := HOL.out; omega)⟩
              obtain ⟨y, hy⟩ : ∃ y, l[s]? = some y := ⟨_, List.getElem?_eq_getElem (by have := HN.out; omega)⟩
              obtain ⟨g1, g2, g3, g5, g4⟩ := HF.out.each s x y hx hy
              obtain ⟨b, o, xu, rfl, hxu, hxc⟩ := HOX.out wr HBW.out s x hx
              obtain ⟨b2, o2, yu, rfl, hyu, hyc⟩ := HX0.out wr (below_next HB1.out HBW.out) s y hy
              rw [← HM.out] at g4
              generalize hZ : subL y ((y.length : Int) - 1) = Z at g4 g5
              have hput : ∀ W, Below wr.heap.size wr W → Calls Tryz.prog 21 #[xu, .slice na t nc, .slice ua t uc] W fun r w' => ∃ v', r = .returned v' ∧ OwnE W.heap.size w' v' Z ∧ Below W.heap.size W w' := fun W hW => by
                have h0 := below_next HB7.out hW
                have := rPut_any x (namesN t) A 200 xu (.slice na t nc) (.slice ua t uc) W g1 (by rw [namesN_len]; exact HM.out) HF.out.atom (by omega) (by have := HF.out.len; omega) (Sl.below hxu hW) (Sl.below HNS.out h0) (HSG.out.below keepsL (below_next HB.out h0))
                rw [g4] at this; exact this
              have hnorm : ∀ W, Below wr.heap.size wr W → Calls Tryz.prog 22 #[yu] W fun r w' => ∃ v', r = .returned v' ∧ OwnE W.heap.size w' v' Z ∧ Below W.heap.size W w' := fun W hW => by
                have := Norm_any y yu W (by omega) (Sl.below hyu hW)
                rw [hZ] at this; exact this
              have hsame : ∀ W p q, IsE W p Z → IsE W q Z → Calls Tryz.prog 20 #[p, q] W fun r w' => r = .returned (.bool true) ∧ ∃ k, w' = W.drewN k := fun W p q hp hq => by
                have := Same_any Z Z p q W (by omega) (by omega) hp hq
                rw [decide_eq_true rfl] at this; exact this
              obtain ⟨xa, xc, rfl, -, -⟩ := hxu.form
              obtain ⟨ya, yc, rfl, -, -⟩ := hyu.form
              generalize hxl : x.length = xl at *
              generalize hyl : y.length = yl at *
              have hsn : (s : Int) < (n : Int) := by omega
              have hs0 : (0 : Int) ≤ (s : Int) := by omega
              have HP := Lib.hid hput
              have HNO := Lib.hid hnorm
              have HSA := Lib.hid hsame
              have HK : Hid (∀ W, Below wr.heap.size wr W → W.cell? ⟨b, o + s, none⟩ = some (.slice xa xl xc) ∧ W.cell? ⟨b2, o2 + s, none⟩ = some (.slice ya yl yc)) := fun W hW =>
                ⟨(hW.cell (World.block_lt_of_cell? wr _ hxc)).trans hxc, (hW.cell (World.block_lt_of_cell? wr _ hyc)).trans hyc⟩
              clear hx hy g1 g2 g3 g4 g5 hput hnorm hsame hxu hyu hZ hxl hyl
              go_wp2_with fail
              have hB0 : Below wr.heap.size wr wr.drew := (Below.refl _ _).drew
              have HK0 := HK.out wr (Below.refl _ _)
              have HK1 := HK.out wr.drew hB0
              go_region_held3 (fun w' => w'.cell? ⟨b, o + s, none⟩ = some (.slice xa xl xc) ∧ w'.cell? ⟨b2, o2 + s, none⟩ = some (.slice ya yl yc))
                (first | exact HK4 | exact HK3 | exact HK2 | exact HK1 | exact HK0)
                (first
                  | (go_at_call 20; refine (HSA.out w3 _ _ hP3 hN3).mono ?_; rintro r w4 ⟨rfl, kk, rfl⟩; have hB4 := below_drawn hB3 kk; have HK4 := HK.out _ hB4)
                  | (go_at_call 21; refine (HP.out w2 hB2).mono ?_; rintro r w3 ⟨pv, rfl, hP, hb3⟩; have hB3 := below_next hB2 hb3; have HK3 := HK.out w3 hB3; have hP3 : IsE w3 pv Z := hP.isE; have hN3 : IsE w3 nv Z := (hN.below hb3).isE)
                  | (go_at_call 22; refine (HNO.out w2 hB2).mono ?_; rintro r w3 ⟨nv, rfl, hN, hb3⟩; have hB3 := below_next hB2 hb3; have HK3 := HK.out w3 hB3; have hN3 : IsE w3 nv Z := hN.isE; have hP3 : IsE w3 pv Z := (hP.below hb3).isE)
                  | (go_at_call 21; refine (HP.out wr.drew hB0).mono ?_; rintro r w2 ⟨pv, rfl, hP, hb2⟩; have hB2 := below_next hB0 hb2; have HK2 := HK.out w2 hB2)
                  | (go_at_call 22; refine (HNO.out wr.drew hB0).mono ?_; rintro r w2 ⟨nv, rfl, hN, hb2⟩; have hB2 := below_next hB0 hb2; have HK2 := HK.out w2 hB2))
              all_goals
                have HB9 := Lib.hid (below_next HB7.out hB4)
                clear hB0 hB2 hB3 hB4 HK0 HK1 HK2 HK3 HK4 hP3 hN3
                go_wp2_with fail
                go_roundw
                case rel => exact ⟨s + 1, by go_num, by omega, HB9.out⟩
                case measure => simp [intOf]; omega
            · have hse : s = n := by omega
              subst hse
              have HB8 := Lib.hid (below_next HB1.out HBW.out)
              go_wp2_with fail
              refine (HLV.out _ HB8.out).mono ?_
              rintro r w6 ⟨rfl, hb6⟩
              go_wp2_with fail
              go_ret
              exact ⟨rfl, below_next HB8.out hb6⟩
    · have hnn := HNO.out her
      have her2 : (er != 0) = true := by simpa using her
      obtain ⟨h2, h3⟩ := hnn
      subst h2 h3
      obtain ⟨ua, uc, rfl, -, -⟩ := rowX (sg_of_rwe hu1)
      obtain ⟨va, vc, rfl, -, -⟩ := rowX (sg_of_rwe hv1)
      simp only [List.length_nil]
      clear HNO HON hu1 hv1
      go_wp2_with fail
      refine (HLV.out _ HB1.out).mono ?_
      rintro r w6 ⟨rfl, hb6⟩
      go_wp2_with fail
      go_ret
      exact ⟨rfl, below_next HB1.out hb6⟩
end Go.Proofs.YtjnpkdpljmkpiaaGreatDoor
