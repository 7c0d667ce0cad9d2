/- How an expression over atoms is reckoned of truth: the walk. -/
import Derived.Test.YtjnpkdpljmkpiaaGreatDoorJ28
namespace Go.Proofs.YtjnpkdpljmkpiaaGreatDoor
open Go.RowKit Go.Shelf Tx
abbrev algB (ab : Nat) : Value := .agg #[.func (.func 49) #[] #[.pointer (some ⟨ab, 0, none⟩)], .func (.func 50) #[] #[], .func (.func 51) #[] #[]]
theorem far_set {W : World} {p q i j : Nat} {x u : Value} (h : W.cell? ⟨q, j, none⟩ = some u) (hne : q ≠ p) : ((W.setCell ⟨p, i, none⟩ x).drew).cell? ⟨q, j, none⟩ = some u := by
  have : (W.setCell ⟨p, i, none⟩ x).cell? ⟨q, j, none⟩ = W.cell? ⟨q, j, none⟩ := by
    have h2 : (⟨p, i, none⟩ : Addr) ≠ ⟨q, j, none⟩ := fun e => hne (congrArg Addr.block e).symm
    apply World.cell?_setCell_other; exact h2
  exact this.trans h
theorem off_set {W : World} {p i j : Nat} {x u : Value} (h : W.cell? ⟨p, j, none⟩ = some u) (hne : j ≠ i) : ((W.setCell ⟨p, i, none⟩ x).drew).cell? ⟨p, j, none⟩ = some u := by
  have : (W.setCell ⟨p, i, none⟩ x).cell? ⟨p, j, none⟩ = W.cell? ⟨p, j, none⟩ := by
    have h2 : (⟨p, i, none⟩ : Addr) ≠ ⟨p, j, none⟩ := fun e => hne (congrArg Addr.off e).symm
    apply World.cell?_setCell_other; exact h2
  exact this.trans h
theorem three_blk {W : World} {b T : Nat} {c0 c1 c2 : Value} (h : Blk W b #[c0, c1, c2] T) : W.cell? ⟨b, 0, none⟩ = some c0 ∧ W.cell? ⟨b, 1, none⟩ = some c1 ∧ W.cell? ⟨b, 2, none⟩ = some c2 := by
  unfold Blk at h; simp [World.cell?, h]
set_option maxRecDepth 100000 in
set_option maxHeartbeats 16000000 in
theorem runB_any (e : List Nd) (v : Value) (l : List Bool) (lv : Value) (ab : Nat) (w : World) (he : e.length ≤ 1000000000) (hs : ∀ x ∈ e, x.s.size ≤ 281474976710656) (hl : l.length ≤ 1000000000) (hv : IsE w v e) (hc : w.cell? ⟨ab, 0, none⟩ = some lv) (hb : SlBools w lv l) (G : Gl w) :
    Calls Tryz.prog 48 #[algB ab, v] w fun r w' => r = .returned (.tuple #[.bool (Ux.valA e l).1, .int .i64 (Ux.valA e l).2]) ∧ Below w.heap.size w w' := by
  obtain ⟨i0, hi, hz0, hz1, hz2⟩ := info_parts infoB
  have nb := (Below.refl w.heap.size w).alloc (Nat.le_refl _) (.cells #[.func (.func 49) #[] #[.pointer (some ⟨ab, 0, none⟩)], .func (.func 50) #[] #[], .func (.func 51) #[] #[]] 99)
  have kb := Blk.new w #[.func (.func 49) #[] #[.pointer (some ⟨ab, 0, none⟩)], .func (.func 50) #[] #[], .func (.func 51) #[] #[]] 99
  obtain ⟨W0, hW0⟩ : ∃ W0, W0 = w.alloc (.cells #[.func (.func 49) #[] #[.pointer (some ⟨ab, 0, none⟩)], .func (.func 50) #[] #[], .func (.func 51) #[] #[]] 99) := ⟨_, rfl⟩
  rw [← hW0] at nb kb
  have hab : ab < w.heap.size := World.block_lt_of_cell? w _ hc
  have HNB : Hid (∀ W, Below W0.heap.size W0 W → Below w.heap.size w W) := fun W h => below_next nb h
  have HKB : Hid (∀ W, Below W0.heap.size W0 W → Blk W w.heap.size #[.func (.func 49) #[] #[.pointer (some ⟨ab, 0, none⟩)], .func (.func 50) #[] #[], .func (.func 51) #[] #[]] 99) := fun W h => kb.below h
  have HAT : Hid (∀ W, Below W0.heap.size W0 W → W.cell? ⟨ab, 0, none⟩ = some lv ∧ SlBools W lv l) := fun W h => by
    have h2 := below_next nb h
    exact ⟨(h2.cell (by exact hab)).trans hc, hb.below h2⟩
  have HG : Hid (∀ W, Below W0.heap.size W0 W → Gl W) := fun W h => G.below (below_next nb h)
  have hv0 : IsE W0 v e := Sl.below hv nb
  have hmay := May_any e v W0 he hv0
  obtain ⟨a, c, rfl, hcl, hx⟩ := hv0.form
  obtain ⟨n, hn⟩ : ∃ n, n = e.length := ⟨_, rfl⟩
  rw [← hn] at hcl he hmay ⊢
  have HN := Lib.hid hn
  have HX := Lib.hid hx
  have HS := Lib.hid hs
  have HW0 := Lib.hid hW0
  obtain ⟨bg, hbg⟩ : ∃ bg, bg = w.heap.size := ⟨_, rfl⟩
  have HBG := Lib.hid hbg
  have HL := Lib.hid hl
  clear hn hx hv hv0 hc hb G nb kb hW0 hab hs hbg hl
  cases hmy : mayB e with
  | false =>
    have HF : Hid (Ux.valA e l = (false, 1)) := Ux.may_none hmy
    rw [hmy] at hmay
    clear hmy
    go_enter Tryz.func48, Tryz.ntmps48
    go_wp2_with fail
    rw [← HW0.out]
    refine hmay.mono ?_
    rintro r w1 ⟨rfl, hb1⟩
    clear hmay
    go_wp2_with fail
    go_ret2
    exact ⟨by rw [HF.out]; rfl, HNB.out _ hb1⟩
  | true =>
    have HMY := Lib.hid hmy
    rw [hmy] at hmay
    have HNE : Hid (1 ≤ n) := by have := ((mayB_iff e).1 hmy).ne; show 1 ≤ n; rw [HN.out]; exact this
    clear hmy
    go_enter Tryz.func48, Tryz.ntmps48
    go_wp2_with fail
    rw [← HW0.out, ← HBG.out]
    refine hmay.mono ?_
    rintro r w1 ⟨rfl, hb1⟩
    clear hmay
    go_wp2_with fail
    go_loopw [30] (fun iv wr => ∃ t : Nat, iv = .int .i64 t ∧ t ≤ n ∧ (∀ (j : Nat) (x : Nd), j < t → e[j]? = some x → Ux.badP x = false) ∧ Below W0.heap.size W0 wr) (fun iv _ => n - (intOf iv).toNat)
    case atStart => exact ⟨0, rfl, Nat.zero_le _, fun j x h => by omega, hb1⟩
    case round =>
      obtain ⟨t, rfl, ht, hok, hB⟩ := hrel
      have HOK := Lib.hid hok
      have HB := Lib.hid hB
      clear hb1 hok hB
      by_cases hlt : t < n
      · obtain ⟨x, hx⟩ : ∃ x, e[t]? = some x := ⟨_, List.getElem?_eq_getElem (by have := HN.out; omega)⟩
        obtain ⟨b, o, rfl, hcell⟩ := HX.out wr HB.out t x hx
        obtain ⟨c0, c1, c2, c3, c4, c5⟩ := nd_cells hcell
        have HXX := Lib.hid hx
        have hxs := HS.out x (List.mem_of_getElem? hx)
        have htn : (t : Int) < (n : Int) := by omega
        have ht0 : (0 : Int) ≤ (t : Int) := by omega
        clear hx hcell
        have nb := (Below.refl wr.heap.size wr).alloc (Nat.le_refl _) (.cells (ndA x) 42)
        have kb := Blk.new wr (ndA x) 42
        go_wp2_with fail
        generalize hW1 : wr.alloc (.cells #[.int .i64 x.op, .int .i64 x.a, .int .i64 x.b, .int .i64 x.c, .int .i64 x.n, .string x.s] 42) = W1
        have hB1 : Below W0.heap.size W0 W1 := by rw [← hW1]; exact below_next HB.out nb
        obtain ⟨nbk, hnbk⟩ : ∃ q, q = wr.heap.size := ⟨_, rfl⟩
        have kb1 : Blk W1 nbk #[.int .i64 x.op, .int .i64 x.a, .int .i64 x.b, .int .i64 x.c, .int .i64 x.n, .string x.s] 42 := by rw [← hW1, hnbk]; exact kb
        rw [← hnbk]
        clear hW1 hnbk kb nb c0 c1 c2 c3 c4 c5
        obtain ⟨c0, c1, c2, c3, c4, c5⟩ := six_cells kb1
        have HB1 := Lib.hid hB1
        refine (number_any x.s W1 hxs (HG.out _ hB1)).mono ?_
        rintro r w2 ⟨nv, rfl, hnv, hb2⟩
        have HB2 := Lib.hid (below_next HB1.out hb2)
        have kb2 := kb1.below hb2
        obtain ⟨N, hN⟩ : ∃ N, N = (Ux.numP x.s).isSome := ⟨_, rfl⟩
        rw [← hN]
        have HNN := Lib.hid hN
        clear hN hnv hb2 kb1 hB1 c0 c1 c2 c3 c4 c5
        obtain ⟨c0, c1, c2, c3, c4, c5⟩ := six_cells kb2
        obtain ⟨L, hL⟩ : ∃ L, L = Ux.isLogic x.op := ⟨_, rfl⟩
        have hlog := isLogic_any x.op w2
        rw [← hL] at hlog
        have HLL := Lib.hid hL
        clear hL kb2
        obtain ⟨q, hq⟩ : ∃ q, q = (x.op != 3) := ⟨_, rfl⟩
        have HQ := Lib.hid hq
        have hqq := hq.symm
        clear hq
        have hor : (L = true ∧ Ux.badP x = false) ∨ (L = false ∧ q = true ∧ Ux.badP x = true) ∨ (L = false ∧ q = false ∧ N = false ∧ Ux.badP x = true) ∨ (L = false ∧ q = false ∧ N = true ∧ Ux.badP x = false) := by
          have hbp : Ux.badP x = (!L && (q || !N)) := by
            unfold Ux.badP; rw [HLL.out, HQ.out, HNN.out]; cases Ux.numP x.s <;> rfl
          rw [hbp]
          cases L <;> cases q <;> cases N <;> simp
        rcases hor with ⟨rfl, hbp⟩ | ⟨rfl, rfl, hbp⟩ | ⟨rfl, rfl, rfl, hbp⟩ | ⟨rfl, rfl, rfl, hbp⟩
        · have HOK2 : Hid (∀ (j : Nat) (y : Nd), j < t + 1 → e[j]? = some y → Ux.badP y = false) := fun j y hj hy => by
            by_cases h : j = t
            · subst h; rw [HXX.out] at hy; cases hy; exact hbp
            · exact HOK.out j y (by omega) hy
          clear hbp
          go_wp2_with fail
          refine hlog.mono ?_
          rintro r w3 ⟨rfl, rfl⟩
          go_wp2_with fail
          go_roundw
          case rel => exact ⟨t + 1, by go_num, by omega, HOK2.out, HB2.out⟩
          case measure => simp [intOf]; omega
        · have HF : Hid (Ux.valA e l = (false, 1)) := Ux.bad_none HL.out HXX.out hbp
          clear hbp
          go_wp2_with fail
          refine hlog.mono ?_
          rintro r w3 ⟨rfl, rfl⟩
          go_wp2_with fail
          go_ret2
          exact ⟨by rw [HF.out]; rfl, HNB.out _ HB2.out⟩
        · have HF : Hid (Ux.valA e l = (false, 1)) := Ux.bad_none HL.out HXX.out hbp
          clear hbp
          go_wp2_with fail
          refine hlog.mono ?_
          rintro r w3 ⟨rfl, rfl⟩
          go_wp2_with fail
          go_ret2
          exact ⟨by rw [HF.out]; rfl, HNB.out _ HB2.out⟩
        · have HOK2 : Hid (∀ (j : Nat) (y : Nd), j < t + 1 → e[j]? = some y → Ux.badP y = false) := fun j y hj hy => by
            by_cases h : j = t
            · subst h; rw [HXX.out] at hy; cases hy; exact hbp
            · exact HOK.out j y (by omega) hy
          clear hbp
          go_wp2_with fail
          refine hlog.mono ?_
          rintro r w3 ⟨rfl, rfl⟩
          go_wp2_with fail
          go_roundw
          case rel => exact ⟨t + 1, by go_num, by omega, HOK2.out, HB2.out⟩
          case measure => simp [intOf]; omega
      · have hte : t = n := by omega
        subst hte
        have HBAD : Hid (∀ (j : Nat) (x : Nd), e[j]? = some x → Ux.badP x = false) := fun j x hj => HOK.out j x (by have := (List.getElem?_eq_some_iff.1 hj).1; have := HN.out; omega) hj
        have HB1 := HB
        clear HOK HB
        go_wp2_with (at_make; refine wpList_make_full _ rfl _ _ 31 rfl wr.heap.size 4 i0 (.bool false) 1 Tryz.underlying31 hi hz0 hz1 _ _ _ _ t rfl rfl rfl rfl ?_ ?_ ?_ ?_; rotate_right; intro w2 hown2 hgrow2)
        case refine_1 => first | omega | (rw [hz2]; omega)
        case refine_2 => first | exact Nat.le_refl _ | (unfold maxLen; omega)
        case refine_3 => first | exact Nat.le_refl _ | (unfold maxLen; omega)
        have hB2 : Below wr.heap.size wr w2 := (Below.refl _ _).grown hgrow2 (Nat.le_refl _) (by simp)
        have hR2 : RowL vB 4 wr.heap.size w2 wr.heap.size t (List.replicate t false) := by
          unfold RowL
          have := hown2
          simp only [Value.cells, Nat.mul_one, toList_madeCells_one] at this
          rw [replicate_one]; exact this
        obtain ⟨bx, hbx⟩ : ∃ bx, bx = wr.heap.size := ⟨_, rfl⟩
        have hbx1 : W0.heap.size ≤ bx := by rw [hbx]; exact HB1.out.size
        rw [← hbx] at hR2 ⊢
        have HBX := Lib.hid hbx1
        have hB3 := below_next HB1.out hB2
        have hup : Ux.upTo (Ux.av l) false e 0 = List.replicate t false := by rw [Ux.upTo_zero, ← HN.out]
        rw [← hup] at hR2
        clear hown2 hgrow2 hi hz0 hz1 hz2 hB2 hbx hbx1 hup HB1
        clear ht
        obtain ⟨n, hnt⟩ : ∃ n, n = t := ⟨_, rfl⟩
        rw [← hnt] at hcl he HN HNE hR2 ⊢
        clear hnt
        go_loopw [60] (fun iv wr => ∃ t : Nat, iv = .int .i64 t ∧ t ≤ n ∧ RowL vB 4 bx wr bx n (Ux.upTo (Ux.av l) false e t) ∧ Ux.goodA l e t ∧ Below W0.heap.size W0 wr) (fun iv _ => n - (intOf iv).toNat)
        case atStart => exact ⟨0, rfl, Nat.zero_le _, hR2, (fun j x h => by omega), hB3⟩
        case round =>
          obtain ⟨t, rfl, ht, hR, hga, hB⟩ := hrel
          have HB := Lib.hid hB
          have HGA := Lib.hid hga
          clear hB3 hR2 hB hga
          by_cases hlt : t < n
          · obtain ⟨x, hx⟩ : ∃ x, e[t]? = some x := ⟨_, List.getElem?_eq_getElem (by have := HN.out; omega)⟩
            obtain ⟨b, o, rfl, hcell⟩ := HX.out wr HB.out t x hx
            obtain ⟨c0, c1, c2, c3, c4, c5⟩ := nd_cells hcell
            have HXX := Lib.hid hx
            have hxs := HS.out x (List.mem_of_getElem? hx)
            have htn : (t : Int) < (n : Int) := by omega
            have ht0 : (0 : Int) ≤ (t : Int) := by omega
            clear hx hcell
            have nb := (Below.refl wr.heap.size wr).alloc (Nat.le_refl _) (.cells (ndA x) 42)
            have kb := Blk.new wr (ndA x) 42
            have hltb := hR.lt.2
            have HUP := Lib.hid (Ux.upTo_next (f := Ux.av l) (z := false) HXX.out)
            have hRL := hR.len
            by_cases h3 : x.op = 3
            · have e3 : (x.op == 3) = true := by simp [h3]
              have H3 : Hid (x.op = 3) := h3
              clear h3
              go_wp2_with fail
              generalize hW1 : wr.alloc (.cells #[.int .i64 x.op, .int .i64 x.a, .int .i64 x.b, .int .i64 x.c, .int .i64 x.n, .string x.s] 42) = W1
              have hB1 : Below W0.heap.size W0 W1 := by rw [← hW1]; exact below_next HB.out nb
              have HR1 : Hid (RowL vB 4 bx W1 bx n (Ux.upTo (Ux.av l) false e t)) := by rw [← hW1]; exact hR.below nb
              have HB1 := Lib.hid hB1
              clear hW1 kb nb c0 c1 c2 c3 c4 c5 hR hB1
              refine (number_any x.s W1 hxs (HG.out _ HB1.out)).mono ?_
              rintro r w2 ⟨nv, rfl, hnv, hb2⟩
              have HB2 := Lib.hid (below_next HB1.out hb2)
              have HR2 := Lib.hid (HR1.out.below hb2)
              have hbp := HBAD.out t x HXX.out
              obtain ⟨m, hm⟩ : ∃ m, Ux.numP x.s = some m := by
                unfold Ux.badP at hbp
                rw [H3.out] at hbp
                cases hq : Ux.numP x.s with
                | none => rw [hq] at hbp; simp [Ux.isLogic] at hbp
                | some m => exact ⟨m, rfl⟩
              have hmv := hnv m hm
              subst hmv
              have HM := Lib.hid hm
              rw [hm]
              clear hm hnv hbp hb2 HR1 HB1
              obtain ⟨d0, d1, d2⟩ := three_blk (HKB.out _ HB2.out)
              rw [← HBG.out] at d0 d1 d2
              obtain ⟨hat1, hat2⟩ := HAT.out _ HB2.out
              have hcall := atom1_any l lv ab m w2 hat1 hat2
              clear hat1 hat2
              go_wp2_with fail
              refine hcall.mono ?_
              rintro r w3 ⟨hw3, hor⟩
              obtain rfl := hw3
              clear hcall d0 d1 d2
              rcases hor with ⟨hm0, hm1, rfl⟩ | ⟨hbad, rfl⟩
              · obtain ⟨k, rfl⟩ : ∃ k : Nat, m = (k : Int) := ⟨m.toNat, by omega⟩
                obtain ⟨hav, hnum⟩ := Ux.av_at HL.out H3.out HM.out (by omega)
                obtain ⟨y, hy⟩ : ∃ y, y = l.getD k false := ⟨_, rfl⟩
                have hy2 : l.getD (k : Int).toNat false = y := by rw [hy]; rfl
                rw [hy2]
                have HRS : Hid (RowL vB 4 bx (w3.setCell ⟨bx, t, none⟩ (.bool y)) bx n (Ux.upTo (Ux.av l) false e (t + 1))) := by
                  show RowL _ _ _ _ _ _ _
                  rw [HUP.out, hav, ← hy]; exact HR2.out.set t y
                have HBS : Hid (Below W0.heap.size W0 (w3.setCell ⟨bx, t, none⟩ (.bool y))) := below_set HB2.out HBX.out
                have HGA2 : Hid (Ux.goodA l e (t + 1)) := fun j z hj hz h3' => by
                  by_cases h : j = t
                  · subst h; rw [HXX.out] at hz; cases hz; rw [hnum]; rfl
                  · exact HGA.out j z (by omega) hz h3'
                have cu := HR2.out.cell (Ux.upTo_self (f := Ux.av l) (z := false) HXX.out)
                have fu := HR2.out.free t
                clear hy hy2 hav hnum hm0 hm1 HR2
                go_wp2_with fail
                go_roundw
                case rel => exact ⟨t + 1, by go_num, by omega, HRS.out, HGA2.out, HBS.out⟩
                case measure => simp [intOf]; omega
              · have HF : Hid (Ux.valA e l = (false, 1)) := Ux.out_none HL.out HXX.out H3.out HM.out hbad
                clear hbad
                go_wp2_with fail
                go_ret2
                exact ⟨by rw [HF.out]; rfl, HNB.out _ HB2.out⟩
            · have e3 : (x.op == 3) = false := by rw [beq_eq_false_iff_ne]; exact h3
              have hsame := Ux.upTo_same (f := Ux.av l) (z := false) HXX.out (by unfold Ux.av; rw [if_neg h3])
              have HR1 : Hid (RowL vB 4 bx (wr.alloc (.cells (ndA x) 42)) bx n (Ux.upTo (Ux.av l) false e (t + 1))) := by
                show RowL _ _ _ _ _ _ _
                rw [hsame]; exact hR.below nb
              have HB1 := Lib.hid (below_next HB.out nb)
              have HGA2 : Hid (Ux.goodA l e (t + 1)) := fun j z hj hz h3' => by
                by_cases h : j = t
                · subst h; rw [HXX.out] at hz; cases hz; exact absurd h3' h3
                · exact HGA.out j z (by omega) hz h3'
              clear hsame hR kb nb
              go_wp2_with fail
              go_roundw
              case rel => exact ⟨t + 1, by go_num, by omega, HR1.out, HGA2.out, HB1.out⟩
              case measure => simp [intOf]; omega
          · have hte : t = n := by omega
            subst hte
            have HVAL : Hid (Ux.valA e l = (Ux.valL l e, 0)) := Ux.done_val HMY.out HBAD.out (by rw [← HN.out]; exact HGA.out)
            have h9 : Ux.upTo (Ux.av l) false e t = Ux.mid (Ux.valN l) (Ux.av l) e 0 := by rw [Ux.mid_zero, HN.out, Ux.upTo_full]
            rw [h9] at hR
            obtain ⟨d0, d1, d2⟩ := three_blk (HKB.out _ HB.out)
            rw [← HBG.out] at d0 d1 d2
            clear h9 HGA
            go_wp2_with fail
            go_quiet ((go_at_call 50; exact Calls.quiet_of_same (same2_any _ _)))
            have hB2 : Below W0.heap.size W0 (wr.drewN nq) := below_drawn HB.out nq
            have hR2 : RowL vB 4 bx (wr.drewN nq) bx t (Ux.mid (Ux.valN l) (Ux.av l) e 0) := hR
            generalize wr.drewN nq = W2 at hB2 hR2 ⊢
            clear hR HB d0 d1 d2 ht
            go_wp2_with fail
            obtain ⟨n, hnt⟩ : ∃ n, n = t := ⟨_, rfl⟩
            rw [← hnt] at hcl he HN HNE hR2 ⊢
            clear hnt hlt
            go_loopw [98] (fun iv wr => ∃ t : Nat, iv = .int .i64 t ∧ t ≤ n ∧ RowL vB 4 bx wr bx n (Ux.mid (Ux.valN l) (Ux.av l) e t) ∧ Below W0.heap.size W0 wr) (fun iv _ => n - (intOf iv).toNat)
            case atStart => exact ⟨0, rfl, Nat.zero_le _, hR2, hB2⟩
            case round =>
              obtain ⟨t, rfl, ht, hR, hB⟩ := hrel
              have HB := Lib.hid hB
              clear hR2 hB2 hB
              by_cases hlt : t < n
              · obtain ⟨x, hx⟩ : ∃ x, e[t]? = some x := ⟨_, List.getElem?_eq_getElem (by have := HN.out; omega)⟩
                obtain ⟨b, o, rfl, hcell⟩ := HX.out wr HB.out t x hx
                obtain ⟨c0, c1, c2, c3, c4, c5⟩ := nd_cells hcell
                have HXX := Lib.hid hx
                have htn : (t : Int) < (n : Int) := by omega
                have ht0 : (0 : Int) ≤ (t : Int) := by omega
                clear hx hcell
                have nb := (Below.refl wr.heap.size wr).alloc (Nat.le_refl _) (.cells (ndA x) 42)
                have kb := Blk.new wr (ndA x) 42
                have hlb := hR.lt.2
                have hgx : bg ≠ bx := by have h1 := (HKB.out _ (Below.refl _ _)).lt; rw [← HBG.out] at h1; have := HBX.out; omega
                obtain ⟨vs, hvs⟩ : ∃ vs, vs = Ux.pre (Ux.valN l) (e.take t) := ⟨_, rfl⟩
                have HUP : Hid (Ux.mid (Ux.valN l) (Ux.av l) e (t + 1) = (Ux.mid (Ux.valN l) (Ux.av l) e t).set t (Ux.valN l vs x)) := by show _ = _; rw [hvs]; exact Ux.mid_next HXX.out
                have HAT3 : Hid (∀ j, j < t → (Ux.mid (Ux.valN l) (Ux.av l) e t)[j]? = some (vs.getD j false)) := fun j hj => by rw [hvs]; exact Ux.mid_at hj (by have := HN.out; omega) false
                have HSELF : Hid ((Ux.mid (Ux.valN l) (Ux.av l) e t)[t]? = some (Ux.av l x)) := Ux.mid_self HXX.out
                have HSAME : Hid (x.op = 3 → Ux.mid (Ux.valN l) (Ux.av l) e (t + 1) = Ux.mid (Ux.valN l) (Ux.av l) e t) := fun h => Ux.mid_same HXX.out (Ux.valN_atom h)
                have hkd := Ux.kids_ahead HMY.out HXX.out
                have hbp := HBAD.out t x HXX.out
                have hops : x.op = 3 ∨ Ux.isLogic x.op = true := by
                  by_cases h3 : x.op = 3
                  · exact Or.inl h3
                  · right
                    unfold Ux.badP at hbp
                    have : (x.op != 3) = true := by simpa using h3
                    rw [this] at hbp; simpa using hbp
                have hRL := hR.len
                clear hvs hbp
                rcases hops with h3 | hlog
                · have HSM := Lib.hid (HSAME.out h3)
                  have HR1 : Hid (RowL vB 4 bx (wr.alloc (.cells (ndA x) 42)) bx n (Ux.mid (Ux.valN l) (Ux.av l) e (t + 1))) := by
                    show RowL _ _ _ _ _ _ _
                    rw [HSM.out]; exact hR.below nb
                  have HB1 := Lib.hid (below_next HB.out nb)
                  have e2 : (x.op == 2) = false := by rw [h3]; rfl
                  have e4 : (x.op == 4) = false := by rw [h3]; rfl
                  have e6 : (x.op == 6) = false := by rw [h3]; rfl
                  have e7 : (x.op == 7) = false := by rw [h3]; rfl
                  have e9 : (x.op == 9) = false := by rw [h3]; rfl
                  have e26 : (x.op == 26) = false := by rw [h3]; rfl
                  have e8 : (x.op == 8) = false := by rw [h3]; rfl
                  clear h3 hR kb nb
                  go_wp2_with fail
                  go_roundw
                  case rel => exact ⟨t + 1, by go_num, by omega, HR1.out, HB1.out⟩
                  case measure => simp [intOf]; omega
                · rcases Ux.kids_logic hlog with ⟨hop, hkk⟩ | ⟨hop, hkk⟩ | ⟨hop, hkk⟩ | ⟨hop, hkk⟩
                  · as_aux_lemma =>
                      clear hlog
                      have h3 : x.op = 2 := hop
                      have e2 : (x.op == 2) = true := by rw [h3]; rfl
                      have e4 : (x.op == 4) = false := by rw [h3]; rfl
                      have e6 : (x.op == 6) = false := by rw [h3]; rfl
                      have e7 : (x.op == 7) = false := by rw [h3]; rfl
                      have e9 : (x.op == 9) = false := by rw [h3]; rfl
                      have e26 : (x.op == 26) = false := by rw [h3]; rfl
                      have e8 : (x.op == 8) = false := by rw [h3]; rfl
                      have HOP : Hid (x.op = 2) := h3
                      clear h3 hop
                      have dd := (three_blk (HKB.out _ (below_next HB.out nb))).2.1
                      rw [← HBG.out] at dd
                      have dd2 : (wr.alloc (.cells #[.int .i64 x.op, .int .i64 x.a, .int .i64 x.b, .int .i64 x.c, .int .i64 x.n, .string x.s] 42)).cell? ⟨bg, 1, none⟩ = some (.func (.func 50) #[] #[]) := dd
                      clear dd
                      go_wp2_with fail
                      clear dd2
                      generalize hW1 : wr.alloc (.cells #[.int .i64 x.op, .int .i64 x.a, .int .i64 x.b, .int .i64 x.c, .int .i64 x.n, .string x.s] 42) = W1
                      have hB1 : Below W0.heap.size W0 W1 := by rw [← hW1]; exact below_next HB.out nb
                      have hR1 : RowL vB 4 bx W1 bx n (Ux.mid (Ux.valN l) (Ux.av l) e t) := by rw [← hW1]; exact hR.below nb
                      obtain ⟨nbk, hnbk⟩ : ∃ q, q = wr.heap.size := ⟨_, rfl⟩
                      have kb1 : Blk W1 nbk #[.int .i64 x.op, .int .i64 x.a, .int .i64 x.b, .int .i64 x.c, .int .i64 x.n, .string x.s] 42 := by rw [← hW1, hnbk]; exact kb
                      have hnx : nbk ≠ bx := by omega
                      rw [← hnbk]
                      clear hW1 hnbk kb nb c0 c1 c2 c3 c4 c5 hR HB
                      obtain ⟨c0, c1, c2, c3, c4, c5⟩ := six_cells kb1
                      have HB1 := Lib.hid hB1
                      have HR1 := Lib.hid hR1
                      obtain ⟨d0, d1, d2⟩ := three_blk (HKB.out _ HB1.out)
                      rw [← HBG.out] at d0 d1 d2
                      have cs := HR1.out.cell HSELF.out
                      have fs := HR1.out.free t
                      clear hB1 hR1 kb1
                      obtain ⟨Y, hY⟩ : ∃ Y : Bool, Y = (x.n == 1) := ⟨_, rfl⟩
                      have HV : Hid (Ux.valN l vs x = Y) := by
                        show _ = _
                        rw [hY]; unfold Ux.valN; rw [HOP.out]; rfl
                      clear hkd
                      have HRS : Hid (RowL vB 4 bx (W1.setCell ⟨bx, t, none⟩ (.bool Y)) bx n (Ux.mid (Ux.valN l) (Ux.av l) e (t + 1))) := by
                        show RowL _ _ _ _ _ _ _
                        rw [HUP.out, HV.out]; exact HR1.out.set t _
                      have HBS : Hid (Below W0.heap.size W0 (W1.setCell ⟨bx, t, none⟩ (.bool Y))) := below_set HB1.out HBX.out
                      clear HR1 HUP
                      refine (same2_any _ _).mono ?_
                      rintro r w3 ⟨rfl, rfl⟩
                      rw [hY] at HRS HBS
                      go_wp2_with fail
                      go_roundw
                      case rel => exact ⟨t + 1, by go_num, by omega, HRS.out, HBS.out⟩
                      case measure => simp [intOf]; omega
                  · as_aux_lemma =>
                      clear hlog
                      have h3 : x.op = 4 := hop
                      have e2 : (x.op == 2) = false := by rw [h3]; rfl
                      have e4 : (x.op == 4) = true := by rw [h3]; rfl
                      have e6 : (x.op == 6) = false := by rw [h3]; rfl
                      have e7 : (x.op == 7) = false := by rw [h3]; rfl
                      have e9 : (x.op == 9) = false := by rw [h3]; rfl
                      have e26 : (x.op == 26) = false := by rw [h3]; rfl
                      have e8 : (x.op == 8) = false := by rw [h3]; rfl
                      have HOP : Hid (x.op = 4) := h3
                      clear h3 hop
                      go_wp2_with fail
                      generalize hW1 : wr.alloc (.cells #[.int .i64 x.op, .int .i64 x.a, .int .i64 x.b, .int .i64 x.c, .int .i64 x.n, .string x.s] 42) = W1
                      have hB1 : Below W0.heap.size W0 W1 := by rw [← hW1]; exact below_next HB.out nb
                      have hR1 : RowL vB 4 bx W1 bx n (Ux.mid (Ux.valN l) (Ux.av l) e t) := by rw [← hW1]; exact hR.below nb
                      obtain ⟨nbk, hnbk⟩ : ∃ q, q = wr.heap.size := ⟨_, rfl⟩
                      have kb1 : Blk W1 nbk #[.int .i64 x.op, .int .i64 x.a, .int .i64 x.b, .int .i64 x.c, .int .i64 x.n, .string x.s] 42 := by rw [← hW1, hnbk]; exact kb
                      have hnx : nbk ≠ bx := by omega
                      rw [← hnbk]
                      clear hW1 hnbk kb nb c0 c1 c2 c3 c4 c5 hR HB
                      obtain ⟨c0, c1, c2, c3, c4, c5⟩ := six_cells kb1
                      have HB1 := Lib.hid hB1
                      have HR1 := Lib.hid hR1
                      obtain ⟨d0, d1, d2⟩ := three_blk (HKB.out _ HB1.out)
                      rw [← HBG.out] at d0 d1 d2
                      have cs := HR1.out.cell HSELF.out
                      have fs := HR1.out.free t
                      clear hB1 hR1 kb1
                      obtain ⟨ja, hja, hla⟩ := hkd x.a (by rw [hkk]; simp)
                      rw [hja] at c1
                      obtain ⟨ya, hya⟩ : ∃ y, y = vs.getD ja false := ⟨_, rfl⟩
                      have va := HR1.out.cell (HAT3.out ja hla)
                      rw [← hya] at va
                      have pa : (0 : Int) ≤ (ja : Int) := by omega
                      have qa : (ja : Int) < (n : Int) := by omega
                      have HOa : Hid (vs.getD x.a.toNat false = ya) := by show _ = _; rw [hja, hya]; rfl
                      clear hya
                      obtain ⟨Y, hY⟩ : ∃ Y : Bool, Y = (if ya then false else true) := ⟨_, rfl⟩
                      have HV : Hid (Ux.valN l vs x = Y) := by
                        show _ = _
                        rw [hY]; unfold Ux.valN; rw [HOP.out, HOa.out]; cases ya <;> rfl
                      have hc : ∀ W, Calls Tryz.prog 51 #[.bool ya, .bool false, .bool true] W fun r w' => r = .returned (.tuple #[.bool Y, .int .i64 0]) ∧ w' = W := fun W => by rw [hY]; exact ite3_any _ _ _ W
                      clear hY
                      clear hkd
                      have HRS : Hid (RowL vB 4 bx ((W1.setCell ⟨bx, t, none⟩ (.bool Y)).drew) bx n (Ux.mid (Ux.valN l) (Ux.av l) e (t + 1))) := by
                        show RowL _ _ _ _ _ _ _
                        rw [HUP.out, HV.out]; exact (HR1.out.set t _).drawn 1
                      have HBS : Hid (Below W0.heap.size W0 ((W1.setCell ⟨bx, t, none⟩ (.bool Y)).drew)) := (below_set HB1.out HBX.out).drew
                      clear HR1 HUP
                      have K0 : W1.cell? ⟨bg, 2, none⟩ = some (.func (.func 51) #[] #[]) ∧ W1.cell? ⟨nbk, 1, none⟩ = some (.int .i64 ja) ∧ W1.cell? ⟨bx, ja, none⟩ = some (.bool ya) := ⟨d2, c1, va⟩
                      have K1 : W1.drew.cell? ⟨bg, 2, none⟩ = some (.func (.func 51) #[] #[]) ∧ W1.drew.cell? ⟨nbk, 1, none⟩ = some (.int .i64 ja) ∧ W1.drew.cell? ⟨bx, ja, none⟩ = some (.bool ya) := ⟨d2, c1, va⟩
                      have K2 : ((W1.setCell ⟨bx, t, none⟩ (.bool Y)).drew).cell? ⟨bg, 2, none⟩ = some (.func (.func 51) #[] #[]) ∧ ((W1.setCell ⟨bx, t, none⟩ (.bool Y)).drew).cell? ⟨nbk, 1, none⟩ = some (.int .i64 ja) ∧ ((W1.setCell ⟨bx, t, none⟩ (.bool Y)).drew).cell? ⟨bx, ja, none⟩ = some (.bool ya) := ⟨far_set d2 hgx, far_set c1 hnx, off_set va (by omega)⟩
                      go_region_held3 (fun w' => w'.cell? ⟨bg, 2, none⟩ = some (.func (.func 51) #[] #[]) ∧ w'.cell? ⟨nbk, 1, none⟩ = some (.int .i64 ja) ∧ w'.cell? ⟨bx, ja, none⟩ = some (.bool ya))
                        (first | exact K2 | exact K1 | exact K0)
                        ((go_at_call 51; refine (hc _).mono ?_; rintro r w3 ⟨rfl, rfl⟩))
                      all_goals clear hc K0 K1 K2
                      all_goals go_wp2_with fail
                      go_roundw
                      case rel => exact ⟨t + 1, by go_num, by omega, HRS.out, HBS.out⟩
                      case measure => simp [intOf]; omega
                  · rcases hop with hop | hop | hop | hop
                    · as_aux_lemma =>
                        clear hlog
                        have h3 : x.op = 6 := hop
                        have e2 : (x.op == 2) = false := by rw [h3]; rfl
                        have e4 : (x.op == 4) = false := by rw [h3]; rfl
                        have e6 : (x.op == 6) = true := by rw [h3]; rfl
                        have e7 : (x.op == 7) = false := by rw [h3]; rfl
                        have e9 : (x.op == 9) = false := by rw [h3]; rfl
                        have e26 : (x.op == 26) = false := by rw [h3]; rfl
                        have e8 : (x.op == 8) = false := by rw [h3]; rfl
                        have HOP : Hid (x.op = 6) := h3
                        clear h3 hop
                        go_wp2_with fail
                        generalize hW1 : wr.alloc (.cells #[.int .i64 x.op, .int .i64 x.a, .int .i64 x.b, .int .i64 x.c, .int .i64 x.n, .string x.s] 42) = W1
                        have hB1 : Below W0.heap.size W0 W1 := by rw [← hW1]; exact below_next HB.out nb
                        have hR1 : RowL vB 4 bx W1 bx n (Ux.mid (Ux.valN l) (Ux.av l) e t) := by rw [← hW1]; exact hR.below nb
                        obtain ⟨nbk, hnbk⟩ : ∃ q, q = wr.heap.size := ⟨_, rfl⟩
                        have kb1 : Blk W1 nbk #[.int .i64 x.op, .int .i64 x.a, .int .i64 x.b, .int .i64 x.c, .int .i64 x.n, .string x.s] 42 := by rw [← hW1, hnbk]; exact kb
                        have hnx : nbk ≠ bx := by omega
                        rw [← hnbk]
                        clear hW1 hnbk kb nb c0 c1 c2 c3 c4 c5 hR HB
                        obtain ⟨c0, c1, c2, c3, c4, c5⟩ := six_cells kb1
                        have HB1 := Lib.hid hB1
                        have HR1 := Lib.hid hR1
                        obtain ⟨d0, d1, d2⟩ := three_blk (HKB.out _ HB1.out)
                        rw [← HBG.out] at d0 d1 d2
                        have cs := HR1.out.cell HSELF.out
                        have fs := HR1.out.free t
                        clear hB1 hR1 kb1
                        obtain ⟨ja, hja, hla⟩ := hkd x.a (by rw [hkk]; simp)
                        rw [hja] at c1
                        obtain ⟨ya, hya⟩ : ∃ y, y = vs.getD ja false := ⟨_, rfl⟩
                        have va := HR1.out.cell (HAT3.out ja hla)
                        rw [← hya] at va
                        have pa : (0 : Int) ≤ (ja : Int) := by omega
                        have qa : (ja : Int) < (n : Int) := by omega
                        have HOa : Hid (vs.getD x.a.toNat false = ya) := by show _ = _; rw [hja, hya]; rfl
                        clear hya
                        obtain ⟨jb, hjb, hlb⟩ := hkd x.b (by rw [hkk]; simp)
                        rw [hjb] at c2
                        obtain ⟨yb, hyb⟩ : ∃ y, y = vs.getD jb false := ⟨_, rfl⟩
                        have vb := HR1.out.cell (HAT3.out jb hlb)
                        rw [← hyb] at vb
                        have pb : (0 : Int) ≤ (jb : Int) := by omega
                        have qb : (jb : Int) < (n : Int) := by omega
                        have HOb : Hid (vs.getD x.b.toNat false = yb) := by show _ = _; rw [hjb, hyb]; rfl
                        clear hyb
                        obtain ⟨Y, hY⟩ : ∃ Y : Bool, Y = (if ya then yb else false) := ⟨_, rfl⟩
                        have HV : Hid (Ux.valN l vs x = Y) := by
                          show _ = _
                          rw [hY]; unfold Ux.valN; rw [HOP.out, HOa.out, HOb.out]; cases ya <;> cases yb <;> rfl
                        have hc : ∀ W, Calls Tryz.prog 51 #[.bool ya, .bool yb, .bool false] W fun r w' => r = .returned (.tuple #[.bool Y, .int .i64 0]) ∧ w' = W := fun W => by rw [hY]; exact ite3_any _ _ _ W
                        clear hY
                        clear hkd
                        have HRS : Hid (RowL vB 4 bx ((W1.setCell ⟨bx, t, none⟩ (.bool Y)).drew) bx n (Ux.mid (Ux.valN l) (Ux.av l) e (t + 1))) := by
                          show RowL _ _ _ _ _ _ _
                          rw [HUP.out, HV.out]; exact (HR1.out.set t _).drawn 1
                        have HBS : Hid (Below W0.heap.size W0 ((W1.setCell ⟨bx, t, none⟩ (.bool Y)).drew)) := (below_set HB1.out HBX.out).drew
                        clear HR1 HUP
                        have K0 : W1.cell? ⟨bg, 2, none⟩ = some (.func (.func 51) #[] #[]) ∧ W1.cell? ⟨nbk, 1, none⟩ = some (.int .i64 ja) ∧ W1.cell? ⟨bx, ja, none⟩ = some (.bool ya) ∧ W1.cell? ⟨nbk, 2, none⟩ = some (.int .i64 jb) ∧ W1.cell? ⟨bx, jb, none⟩ = some (.bool yb) := ⟨d2, c1, va, c2, vb⟩
                        have K1 : W1.drew.cell? ⟨bg, 2, none⟩ = some (.func (.func 51) #[] #[]) ∧ W1.drew.cell? ⟨nbk, 1, none⟩ = some (.int .i64 ja) ∧ W1.drew.cell? ⟨bx, ja, none⟩ = some (.bool ya) ∧ W1.drew.cell? ⟨nbk, 2, none⟩ = some (.int .i64 jb) ∧ W1.drew.cell? ⟨bx, jb, none⟩ = some (.bool yb) := ⟨d2, c1, va, c2, vb⟩
                        have K2 : ((W1.setCell ⟨bx, t, none⟩ (.bool Y)).drew).cell? ⟨bg, 2, none⟩ = some (.func (.func 51) #[] #[]) ∧ ((W1.setCell ⟨bx, t, none⟩ (.bool Y)).drew).cell? ⟨nbk, 1, none⟩ = some (.int .i64 ja) ∧ ((W1.setCell ⟨bx, t, none⟩ (.bool Y)).drew).cell? ⟨bx, ja, none⟩ = some (.bool ya) ∧ ((W1.setCell ⟨bx, t, none⟩ (.bool Y)).drew).cell? ⟨nbk, 2, none⟩ = some (.int .i64 jb) ∧ ((W1.setCell ⟨bx, t, none⟩ (.bool Y)).drew).cell? ⟨bx, jb, none⟩ = some (.bool yb) := ⟨far_set d2 hgx, far_set c1 hnx, off_set va (by omega), far_set c2 hnx, off_set vb (by omega)⟩
                        go_region_held3 (fun w' => w'.cell? ⟨bg, 2, none⟩ = some (.func (.func 51) #[] #[]) ∧ w'.cell? ⟨nbk, 1, none⟩ = some (.int .i64 ja) ∧ w'.cell? ⟨bx, ja, none⟩ = some (.bool ya) ∧ w'.cell? ⟨nbk, 2, none⟩ = some (.int .i64 jb) ∧ w'.cell? ⟨bx, jb, none⟩ = some (.bool yb))
                          (first | exact K2 | exact K1 | exact K0)
                          ((go_at_call 51; refine (hc _).mono ?_; rintro r w3 ⟨rfl, rfl⟩))
                        all_goals clear hc K0 K1 K2
                        all_goals go_wp2_with fail
                        go_roundw
                        case rel => exact ⟨t + 1, by go_num, by omega, HRS.out, HBS.out⟩
                        case measure => simp [intOf]; omega
                    · as_aux_lemma =>
                        clear hlog
                        have h3 : x.op = 7 := hop
                        have e2 : (x.op == 2) = false := by rw [h3]; rfl
                        have e4 : (x.op == 4) = false := by rw [h3]; rfl
                        have e6 : (x.op == 6) = false := by rw [h3]; rfl
                        have e7 : (x.op == 7) = true := by rw [h3]; rfl
                        have e9 : (x.op == 9) = false := by rw [h3]; rfl
                        have e26 : (x.op == 26) = false := by rw [h3]; rfl
                        have e8 : (x.op == 8) = false := by rw [h3]; rfl
                        have HOP : Hid (x.op = 7) := h3
                        clear h3 hop
                        go_wp2_with fail
                        generalize hW1 : wr.alloc (.cells #[.int .i64 x.op, .int .i64 x.a, .int .i64 x.b, .int .i64 x.c, .int .i64 x.n, .string x.s] 42) = W1
                        have hB1 : Below W0.heap.size W0 W1 := by rw [← hW1]; exact below_next HB.out nb
                        have hR1 : RowL vB 4 bx W1 bx n (Ux.mid (Ux.valN l) (Ux.av l) e t) := by rw [← hW1]; exact hR.below nb
                        obtain ⟨nbk, hnbk⟩ : ∃ q, q = wr.heap.size := ⟨_, rfl⟩
                        have kb1 : Blk W1 nbk #[.int .i64 x.op, .int .i64 x.a, .int .i64 x.b, .int .i64 x.c, .int .i64 x.n, .string x.s] 42 := by rw [← hW1, hnbk]; exact kb
                        have hnx : nbk ≠ bx := by omega
                        rw [← hnbk]
                        clear hW1 hnbk kb nb c0 c1 c2 c3 c4 c5 hR HB
                        obtain ⟨c0, c1, c2, c3, c4, c5⟩ := six_cells kb1
                        have HB1 := Lib.hid hB1
                        have HR1 := Lib.hid hR1
                        obtain ⟨d0, d1, d2⟩ := three_blk (HKB.out _ HB1.out)
                        rw [← HBG.out] at d0 d1 d2
                        have cs := HR1.out.cell HSELF.out
                        have fs := HR1.out.free t
                        clear hB1 hR1 kb1
                        obtain ⟨ja, hja, hla⟩ := hkd x.a (by rw [hkk]; simp)
                        rw [hja] at c1
                        obtain ⟨ya, hya⟩ : ∃ y, y = vs.getD ja false := ⟨_, rfl⟩
                        have va := HR1.out.cell (HAT3.out ja hla)
                        rw [← hya] at va
                        have pa : (0 : Int) ≤ (ja : Int) := by omega
                        have qa : (ja : Int) < (n : Int) := by omega
                        have HOa : Hid (vs.getD x.a.toNat false = ya) := by show _ = _; rw [hja, hya]; rfl
                        clear hya
                        obtain ⟨jb, hjb, hlb⟩ := hkd x.b (by rw [hkk]; simp)
                        rw [hjb] at c2
                        obtain ⟨yb, hyb⟩ : ∃ y, y = vs.getD jb false := ⟨_, rfl⟩
                        have vb := HR1.out.cell (HAT3.out jb hlb)
                        rw [← hyb] at vb
                        have pb : (0 : Int) ≤ (jb : Int) := by omega
                        have qb : (jb : Int) < (n : Int) := by omega
                        have HOb : Hid (vs.getD x.b.toNat false = yb) := by show _ = _; rw [hjb, hyb]; rfl
                        clear hyb
                        obtain ⟨Y, hY⟩ : ∃ Y : Bool, Y = (if ya then true else yb) := ⟨_, rfl⟩
                        have HV : Hid (Ux.valN l vs x = Y) := by
                          show _ = _
                          rw [hY]; unfold Ux.valN; rw [HOP.out, HOa.out, HOb.out]; cases ya <;> cases yb <;> rfl
                        have hc : ∀ W, Calls Tryz.prog 51 #[.bool ya, .bool true, .bool yb] W fun r w' => r = .returned (.tuple #[.bool Y, .int .i64 0]) ∧ w' = W := fun W => by rw [hY]; exact ite3_any _ _ _ W
                        clear hY
                        clear hkd
                        have HRS : Hid (RowL vB 4 bx ((W1.setCell ⟨bx, t, none⟩ (.bool Y)).drew) bx n (Ux.mid (Ux.valN l) (Ux.av l) e (t + 1))) := by
                          show RowL _ _ _ _ _ _ _
                          rw [HUP.out, HV.out]; exact (HR1.out.set t _).drawn 1
                        have HBS : Hid (Below W0.heap.size W0 ((W1.setCell ⟨bx, t, none⟩ (.bool Y)).drew)) := (below_set HB1.out HBX.out).drew
                        clear HR1 HUP
                        have K0 : W1.cell? ⟨bg, 2, none⟩ = some (.func (.func 51) #[] #[]) ∧ W1.cell? ⟨nbk, 1, none⟩ = some (.int .i64 ja) ∧ W1.cell? ⟨bx, ja, none⟩ = some (.bool ya) ∧ W1.cell? ⟨nbk, 2, none⟩ = some (.int .i64 jb) ∧ W1.cell? ⟨bx, jb, none⟩ = some (.bool yb) := ⟨d2, c1, va, c2, vb⟩
                        have K1 : W1.drew.cell? ⟨bg, 2, none⟩ = some (.func (.func 51) #[] #[]) ∧ W1.drew.cell? ⟨nbk, 1, none⟩ = some (.int .i64 ja) ∧ W1.drew.cell? ⟨bx, ja, none⟩ = some (.bool ya) ∧ W1.drew.cell? ⟨nbk, 2, none⟩ = some (.int .i64 jb) ∧ W1.drew.cell? ⟨bx, jb, none⟩ = some (.bool yb) := ⟨d2, c1, va, c2, vb⟩
                        have K2 : ((W1.setCell ⟨bx, t, none⟩ (.bool Y)).drew).cell? ⟨bg, 2, none⟩ = some (.func (.func 51) #[] #[]) ∧ ((W1.setCell ⟨bx, t, none⟩ (.bool Y)).drew).cell? ⟨nbk, 1, none⟩ = some (.int .i64 ja) ∧ ((W1.setCell ⟨bx, t, none⟩ (.bool Y)).drew).cell? ⟨bx, ja, none⟩ = some (.bool ya) ∧ ((W1.setCell ⟨bx, t, none⟩ (.bool Y)).drew).cell? ⟨nbk, 2, none⟩ = some (.int .i64 jb) ∧ ((W1.setCell ⟨bx, t, none⟩ (.bool Y)).drew).cell? ⟨bx, jb, none⟩ = some (.bool yb) := ⟨far_set d2 hgx, far_set c1 hnx, off_set va (by omega), far_set c2 hnx, off_set vb (by omega)⟩
                        go_region_held3 (fun w' => w'.cell? ⟨bg, 2, none⟩ = some (.func (.func 51) #[] #[]) ∧ w'.cell? ⟨nbk, 1, none⟩ = some (.int .i64 ja) ∧ w'.cell? ⟨bx, ja, none⟩ = some (.bool ya) ∧ w'.cell? ⟨nbk, 2, none⟩ = some (.int .i64 jb) ∧ w'.cell? ⟨bx, jb, none⟩ = some (.bool yb))
                          (first | exact K2 | exact K1 | exact K0)
                          ((go_at_call 51; refine (hc _).mono ?_; rintro r w3 ⟨rfl, rfl⟩))
                        all_goals clear hc K0 K1 K2
                        all_goals go_wp2_with fail
                        go_roundw
                        case rel => exact ⟨t + 1, by go_num, by omega, HRS.out, HBS.out⟩
                        case measure => simp [intOf]; omega
                    · as_aux_lemma =>
                        clear hlog
                        have h3 : x.op = 8 := hop
                        have e2 : (x.op == 2) = false := by rw [h3]; rfl
                        have e4 : (x.op == 4) = false := by rw [h3]; rfl
                        have e6 : (x.op == 6) = false := by rw [h3]; rfl
                        have e7 : (x.op == 7) = false := by rw [h3]; rfl
                        have e9 : (x.op == 9) = false := by rw [h3]; rfl
                        have e26 : (x.op == 26) = false := by rw [h3]; rfl
                        have e8 : (x.op == 8) = true := by rw [h3]; rfl
                        have HOP : Hid (x.op = 8) := h3
                        clear h3 hop
                        go_wp2_with fail
                        generalize hW1 : wr.alloc (.cells #[.int .i64 x.op, .int .i64 x.a, .int .i64 x.b, .int .i64 x.c, .int .i64 x.n, .string x.s] 42) = W1
                        have hB1 : Below W0.heap.size W0 W1 := by rw [← hW1]; exact below_next HB.out nb
                        have hR1 : RowL vB 4 bx W1 bx n (Ux.mid (Ux.valN l) (Ux.av l) e t) := by rw [← hW1]; exact hR.below nb
                        obtain ⟨nbk, hnbk⟩ : ∃ q, q = wr.heap.size := ⟨_, rfl⟩
                        have kb1 : Blk W1 nbk #[.int .i64 x.op, .int .i64 x.a, .int .i64 x.b, .int .i64 x.c, .int .i64 x.n, .string x.s] 42 := by rw [← hW1, hnbk]; exact kb
                        have hnx : nbk ≠ bx := by omega
                        rw [← hnbk]
                        clear hW1 hnbk kb nb c0 c1 c2 c3 c4 c5 hR HB
                        obtain ⟨c0, c1, c2, c3, c4, c5⟩ := six_cells kb1
                        have HB1 := Lib.hid hB1
                        have HR1 := Lib.hid hR1
                        obtain ⟨d0, d1, d2⟩ := three_blk (HKB.out _ HB1.out)
                        rw [← HBG.out] at d0 d1 d2
                        have cs := HR1.out.cell HSELF.out
                        have fs := HR1.out.free t
                        clear hB1 hR1 kb1
                        obtain ⟨ja, hja, hla⟩ := hkd x.a (by rw [hkk]; simp)
                        rw [hja] at c1
                        obtain ⟨ya, hya⟩ : ∃ y, y = vs.getD ja false := ⟨_, rfl⟩
                        have va := HR1.out.cell (HAT3.out ja hla)
                        rw [← hya] at va
                        have pa : (0 : Int) ≤ (ja : Int) := by omega
                        have qa : (ja : Int) < (n : Int) := by omega
                        have HOa : Hid (vs.getD x.a.toNat false = ya) := by show _ = _; rw [hja, hya]; rfl
                        clear hya
                        obtain ⟨jb, hjb, hlb⟩ := hkd x.b (by rw [hkk]; simp)
                        rw [hjb] at c2
                        obtain ⟨yb, hyb⟩ : ∃ y, y = vs.getD jb false := ⟨_, rfl⟩
                        have vb := HR1.out.cell (HAT3.out jb hlb)
                        rw [← hyb] at vb
                        have pb : (0 : Int) ≤ (jb : Int) := by omega
                        have qb : (jb : Int) < (n : Int) := by omega
                        have HOb : Hid (vs.getD x.b.toNat false = yb) := by show _ = _; rw [hjb, hyb]; rfl
                        clear hyb
                        obtain ⟨Y, hY⟩ : ∃ Y : Bool, Y = (if ya then (if yb then false else true) else yb) := ⟨_, rfl⟩
                        have HV : Hid (Ux.valN l vs x = Y) := by
                          show _ = _
                          rw [hY]; unfold Ux.valN; rw [HOP.out, HOa.out, HOb.out]; cases ya <;> cases yb <;> rfl
                        obtain ⟨Z, hZ⟩ : ∃ Z : Bool, Z = (if yb then false else true) := ⟨_, rfl⟩
                        have hq : ∀ W, Calls Tryz.prog 51 #[.bool yb, .bool false, .bool true] W fun r w' => r = .returned (.tuple #[.bool Z, .int .i64 0]) ∧ w' = W := fun W => by rw [hZ]; exact ite3_any _ _ _ W
                        rw [← hZ] at hY
                        have hc : ∀ W, Calls Tryz.prog 51 #[.bool ya, .bool Z, .bool yb] W fun r w' => r = .returned (.tuple #[.bool Y, .int .i64 0]) ∧ w' = W := fun W => by rw [hY]; exact ite3_any _ _ _ W
                        clear hY
                        clear hZ
                        clear hkd
                        go_quiet ((go_at_call 51; exact Calls.quiet_of_same (hq _)))
                        generalize hW2 : W1.drewN nq = W2
                        have HR2 : Hid (RowL vB 4 bx W2 bx n (Ux.mid (Ux.valN l) (Ux.av l) e t)) := by rw [← hW2]; exact HR1.out
                        have HB2 : Hid (Below W0.heap.size W0 W2) := by rw [← hW2]; exact below_drawn HB1.out nq
                        have g1 : W2.cell? ⟨nbk, 1, none⟩ = some (.int .i64 ja) := by rw [← hW2]; exact c1
                        have g2 : W2.cell? ⟨nbk, 2, none⟩ = some (.int .i64 jb) := by rw [← hW2]; exact c2
                        have k2 : W2.cell? ⟨bg, 2, none⟩ = some (.func (.func 51) #[] #[]) := by rw [← hW2]; exact d2
                        have u1 : W2.cell? ⟨bx, ja, none⟩ = some (.bool ya) := by rw [← hW2]; exact va
                        have u2 : W2.cell? ⟨bx, jb, none⟩ = some (.bool yb) := by rw [← hW2]; exact vb
                        have cs2 : W2.cell? ⟨bx, t, none⟩ = some (vB (Ux.av l x)) := by rw [← hW2]; exact cs
                        have fs2 : W2.frozen? ⟨bx, t, none⟩ = false := by rw [← hW2]; exact fs
                        clear hW2 c0 c1 c2 c3 c4 c5 d0 d1 d2 va vb cs fs HR1 HB1 hq
                        go_wp2_with fail
                        have HRS : Hid (RowL vB 4 bx ((W2.setCell ⟨bx, t, none⟩ (.bool Y)).drew) bx n (Ux.mid (Ux.valN l) (Ux.av l) e (t + 1))) := by
                          show RowL _ _ _ _ _ _ _
                          rw [HUP.out, HV.out]; exact (HR2.out.set t _).drawn 1
                        have HBS : Hid (Below W0.heap.size W0 ((W2.setCell ⟨bx, t, none⟩ (.bool Y)).drew)) := (below_set HB2.out HBX.out).drew
                        clear HR2 HUP
                        have K0 : W2.cell? ⟨bg, 2, none⟩ = some (.func (.func 51) #[] #[]) ∧ W2.cell? ⟨nbk, 1, none⟩ = some (.int .i64 ja) ∧ W2.cell? ⟨bx, ja, none⟩ = some (.bool ya) ∧ W2.cell? ⟨nbk, 2, none⟩ = some (.int .i64 jb) ∧ W2.cell? ⟨bx, jb, none⟩ = some (.bool yb) := ⟨k2, g1, u1, g2, u2⟩
                        have K1 : W2.drew.cell? ⟨bg, 2, none⟩ = some (.func (.func 51) #[] #[]) ∧ W2.drew.cell? ⟨nbk, 1, none⟩ = some (.int .i64 ja) ∧ W2.drew.cell? ⟨bx, ja, none⟩ = some (.bool ya) ∧ W2.drew.cell? ⟨nbk, 2, none⟩ = some (.int .i64 jb) ∧ W2.drew.cell? ⟨bx, jb, none⟩ = some (.bool yb) := ⟨k2, g1, u1, g2, u2⟩
                        have K2 : ((W2.setCell ⟨bx, t, none⟩ (.bool Y)).drew).cell? ⟨bg, 2, none⟩ = some (.func (.func 51) #[] #[]) ∧ ((W2.setCell ⟨bx, t, none⟩ (.bool Y)).drew).cell? ⟨nbk, 1, none⟩ = some (.int .i64 ja) ∧ ((W2.setCell ⟨bx, t, none⟩ (.bool Y)).drew).cell? ⟨bx, ja, none⟩ = some (.bool ya) ∧ ((W2.setCell ⟨bx, t, none⟩ (.bool Y)).drew).cell? ⟨nbk, 2, none⟩ = some (.int .i64 jb) ∧ ((W2.setCell ⟨bx, t, none⟩ (.bool Y)).drew).cell? ⟨bx, jb, none⟩ = some (.bool yb) := ⟨far_set k2 hgx, far_set g1 hnx, off_set u1 (by omega), far_set g2 hnx, off_set u2 (by omega)⟩
                        go_region_held3 (fun w' => w'.cell? ⟨bg, 2, none⟩ = some (.func (.func 51) #[] #[]) ∧ w'.cell? ⟨nbk, 1, none⟩ = some (.int .i64 ja) ∧ w'.cell? ⟨bx, ja, none⟩ = some (.bool ya) ∧ w'.cell? ⟨nbk, 2, none⟩ = some (.int .i64 jb) ∧ w'.cell? ⟨bx, jb, none⟩ = some (.bool yb))
                          (first | exact K2 | exact K1 | exact K0)
                          ((go_at_call 51; refine (hc _).mono ?_; rintro r w3 ⟨rfl, rfl⟩))
                        all_goals clear hc K0 K1 K2
                        all_goals go_wp2_with fail
                        go_roundw
                        case rel => exact ⟨t + 1, by go_num, by omega, HRS.out, HBS.out⟩
                        case measure => simp [intOf]; omega
                    · as_aux_lemma =>
                        clear hlog
                        have h3 : x.op = 9 := hop
                        have e2 : (x.op == 2) = false := by rw [h3]; rfl
                        have e4 : (x.op == 4) = false := by rw [h3]; rfl
                        have e6 : (x.op == 6) = false := by rw [h3]; rfl
                        have e7 : (x.op == 7) = false := by rw [h3]; rfl
                        have e9 : (x.op == 9) = true := by rw [h3]; rfl
                        have e26 : (x.op == 26) = false := by rw [h3]; rfl
                        have e8 : (x.op == 8) = false := by rw [h3]; rfl
                        have HOP : Hid (x.op = 9) := h3
                        clear h3 hop
                        go_wp2_with fail
                        generalize hW1 : wr.alloc (.cells #[.int .i64 x.op, .int .i64 x.a, .int .i64 x.b, .int .i64 x.c, .int .i64 x.n, .string x.s] 42) = W1
                        have hB1 : Below W0.heap.size W0 W1 := by rw [← hW1]; exact below_next HB.out nb
                        have hR1 : RowL vB 4 bx W1 bx n (Ux.mid (Ux.valN l) (Ux.av l) e t) := by rw [← hW1]; exact hR.below nb
                        obtain ⟨nbk, hnbk⟩ : ∃ q, q = wr.heap.size := ⟨_, rfl⟩
                        have kb1 : Blk W1 nbk #[.int .i64 x.op, .int .i64 x.a, .int .i64 x.b, .int .i64 x.c, .int .i64 x.n, .string x.s] 42 := by rw [← hW1, hnbk]; exact kb
                        have hnx : nbk ≠ bx := by omega
                        rw [← hnbk]
                        clear hW1 hnbk kb nb c0 c1 c2 c3 c4 c5 hR HB
                        obtain ⟨c0, c1, c2, c3, c4, c5⟩ := six_cells kb1
                        have HB1 := Lib.hid hB1
                        have HR1 := Lib.hid hR1
                        obtain ⟨d0, d1, d2⟩ := three_blk (HKB.out _ HB1.out)
                        rw [← HBG.out] at d0 d1 d2
                        have cs := HR1.out.cell HSELF.out
                        have fs := HR1.out.free t
                        clear hB1 hR1 kb1
                        obtain ⟨ja, hja, hla⟩ := hkd x.a (by rw [hkk]; simp)
                        rw [hja] at c1
                        obtain ⟨ya, hya⟩ : ∃ y, y = vs.getD ja false := ⟨_, rfl⟩
                        have va := HR1.out.cell (HAT3.out ja hla)
                        rw [← hya] at va
                        have pa : (0 : Int) ≤ (ja : Int) := by omega
                        have qa : (ja : Int) < (n : Int) := by omega
                        have HOa : Hid (vs.getD x.a.toNat false = ya) := by show _ = _; rw [hja, hya]; rfl
                        clear hya
                        obtain ⟨jb, hjb, hlb⟩ := hkd x.b (by rw [hkk]; simp)
                        rw [hjb] at c2
                        obtain ⟨yb, hyb⟩ : ∃ y, y = vs.getD jb false := ⟨_, rfl⟩
                        have vb := HR1.out.cell (HAT3.out jb hlb)
                        rw [← hyb] at vb
                        have pb : (0 : Int) ≤ (jb : Int) := by omega
                        have qb : (jb : Int) < (n : Int) := by omega
                        have HOb : Hid (vs.getD x.b.toNat false = yb) := by show _ = _; rw [hjb, hyb]; rfl
                        clear hyb
                        obtain ⟨Y, hY⟩ : ∃ Y : Bool, Y = (if ya then yb else true) := ⟨_, rfl⟩
                        have HV : Hid (Ux.valN l vs x = Y) := by
                          show _ = _
                          rw [hY]; unfold Ux.valN; rw [HOP.out, HOa.out, HOb.out]; cases ya <;> cases yb <;> rfl
                        have hc : ∀ W, Calls Tryz.prog 51 #[.bool ya, .bool yb, .bool true] W fun r w' => r = .returned (.tuple #[.bool Y, .int .i64 0]) ∧ w' = W := fun W => by rw [hY]; exact ite3_any _ _ _ W
                        clear hY
                        clear hkd
                        have HRS : Hid (RowL vB 4 bx ((W1.setCell ⟨bx, t, none⟩ (.bool Y)).drew) bx n (Ux.mid (Ux.valN l) (Ux.av l) e (t + 1))) := by
                          show RowL _ _ _ _ _ _ _
                          rw [HUP.out, HV.out]; exact (HR1.out.set t _).drawn 1
                        have HBS : Hid (Below W0.heap.size W0 ((W1.setCell ⟨bx, t, none⟩ (.bool Y)).drew)) := (below_set HB1.out HBX.out).drew
                        clear HR1 HUP
                        have K0 : W1.cell? ⟨bg, 2, none⟩ = some (.func (.func 51) #[] #[]) ∧ W1.cell? ⟨nbk, 1, none⟩ = some (.int .i64 ja) ∧ W1.cell? ⟨bx, ja, none⟩ = some (.bool ya) ∧ W1.cell? ⟨nbk, 2, none⟩ = some (.int .i64 jb) ∧ W1.cell? ⟨bx, jb, none⟩ = some (.bool yb) := ⟨d2, c1, va, c2, vb⟩
                        have K1 : W1.drew.cell? ⟨bg, 2, none⟩ = some (.func (.func 51) #[] #[]) ∧ W1.drew.cell? ⟨nbk, 1, none⟩ = some (.int .i64 ja) ∧ W1.drew.cell? ⟨bx, ja, none⟩ = some (.bool ya) ∧ W1.drew.cell? ⟨nbk, 2, none⟩ = some (.int .i64 jb) ∧ W1.drew.cell? ⟨bx, jb, none⟩ = some (.bool yb) := ⟨d2, c1, va, c2, vb⟩
                        have K2 : ((W1.setCell ⟨bx, t, none⟩ (.bool Y)).drew).cell? ⟨bg, 2, none⟩ = some (.func (.func 51) #[] #[]) ∧ ((W1.setCell ⟨bx, t, none⟩ (.bool Y)).drew).cell? ⟨nbk, 1, none⟩ = some (.int .i64 ja) ∧ ((W1.setCell ⟨bx, t, none⟩ (.bool Y)).drew).cell? ⟨bx, ja, none⟩ = some (.bool ya) ∧ ((W1.setCell ⟨bx, t, none⟩ (.bool Y)).drew).cell? ⟨nbk, 2, none⟩ = some (.int .i64 jb) ∧ ((W1.setCell ⟨bx, t, none⟩ (.bool Y)).drew).cell? ⟨bx, jb, none⟩ = some (.bool yb) := ⟨far_set d2 hgx, far_set c1 hnx, off_set va (by omega), far_set c2 hnx, off_set vb (by omega)⟩
                        go_region_held3 (fun w' => w'.cell? ⟨bg, 2, none⟩ = some (.func (.func 51) #[] #[]) ∧ w'.cell? ⟨nbk, 1, none⟩ = some (.int .i64 ja) ∧ w'.cell? ⟨bx, ja, none⟩ = some (.bool ya) ∧ w'.cell? ⟨nbk, 2, none⟩ = some (.int .i64 jb) ∧ w'.cell? ⟨bx, jb, none⟩ = some (.bool yb))
                          (first | exact K2 | exact K1 | exact K0)
                          ((go_at_call 51; refine (hc _).mono ?_; rintro r w3 ⟨rfl, rfl⟩))
                        all_goals clear hc K0 K1 K2
                        all_goals go_wp2_with fail
                        go_roundw
                        case rel => exact ⟨t + 1, by go_num, by omega, HRS.out, HBS.out⟩
                        case measure => simp [intOf]; omega
                  · as_aux_lemma =>
                      clear hlog
                      have h3 : x.op = 26 := hop
                      have e2 : (x.op == 2) = false := by rw [h3]; rfl
                      have e4 : (x.op == 4) = false := by rw [h3]; rfl
                      have e6 : (x.op == 6) = false := by rw [h3]; rfl
                      have e7 : (x.op == 7) = false := by rw [h3]; rfl
                      have e9 : (x.op == 9) = false := by rw [h3]; rfl
                      have e26 : (x.op == 26) = true := by rw [h3]; rfl
                      have e8 : (x.op == 8) = false := by rw [h3]; rfl
                      have HOP : Hid (x.op = 26) := h3
                      clear h3 hop
                      go_wp2_with fail
                      generalize hW1 : wr.alloc (.cells #[.int .i64 x.op, .int .i64 x.a, .int .i64 x.b, .int .i64 x.c, .int .i64 x.n, .string x.s] 42) = W1
                      have hB1 : Below W0.heap.size W0 W1 := by rw [← hW1]; exact below_next HB.out nb
                      have hR1 : RowL vB 4 bx W1 bx n (Ux.mid (Ux.valN l) (Ux.av l) e t) := by rw [← hW1]; exact hR.below nb
                      obtain ⟨nbk, hnbk⟩ : ∃ q, q = wr.heap.size := ⟨_, rfl⟩
                      have kb1 : Blk W1 nbk #[.int .i64 x.op, .int .i64 x.a, .int .i64 x.b, .int .i64 x.c, .int .i64 x.n, .string x.s] 42 := by rw [← hW1, hnbk]; exact kb
                      have hnx : nbk ≠ bx := by omega
                      rw [← hnbk]
                      clear hW1 hnbk kb nb c0 c1 c2 c3 c4 c5 hR HB
                      obtain ⟨c0, c1, c2, c3, c4, c5⟩ := six_cells kb1
                      have HB1 := Lib.hid hB1
                      have HR1 := Lib.hid hR1
                      obtain ⟨d0, d1, d2⟩ := three_blk (HKB.out _ HB1.out)
                      rw [← HBG.out] at d0 d1 d2
                      have cs := HR1.out.cell HSELF.out
                      have fs := HR1.out.free t
                      clear hB1 hR1 kb1
                      obtain ⟨ja, hja, hla⟩ := hkd x.a (by rw [hkk]; simp)
                      rw [hja] at c1
                      obtain ⟨ya, hya⟩ : ∃ y, y = vs.getD ja false := ⟨_, rfl⟩
                      have va := HR1.out.cell (HAT3.out ja hla)
                      rw [← hya] at va
                      have pa : (0 : Int) ≤ (ja : Int) := by omega
                      have qa : (ja : Int) < (n : Int) := by omega
                      have HOa : Hid (vs.getD x.a.toNat false = ya) := by show _ = _; rw [hja, hya]; rfl
                      clear hya
                      obtain ⟨jb, hjb, hlb⟩ := hkd x.b (by rw [hkk]; simp)
                      rw [hjb] at c2
                      obtain ⟨yb, hyb⟩ : ∃ y, y = vs.getD jb false := ⟨_, rfl⟩
                      have vb := HR1.out.cell (HAT3.out jb hlb)
                      rw [← hyb] at vb
                      have pb : (0 : Int) ≤ (jb : Int) := by omega
                      have qb : (jb : Int) < (n : Int) := by omega
                      have HOb : Hid (vs.getD x.b.toNat false = yb) := by show _ = _; rw [hjb, hyb]; rfl
                      clear hyb
                      obtain ⟨jc, hjc, hlc⟩ := hkd x.c (by rw [hkk]; simp)
                      rw [hjc] at c3
                      obtain ⟨yc, hyc⟩ : ∃ y, y = vs.getD jc false := ⟨_, rfl⟩
                      have vc := HR1.out.cell (HAT3.out jc hlc)
                      rw [← hyc] at vc
                      have pc : (0 : Int) ≤ (jc : Int) := by omega
                      have qc : (jc : Int) < (n : Int) := by omega
                      have HOc : Hid (vs.getD x.c.toNat false = yc) := by show _ = _; rw [hjc, hyc]; rfl
                      clear hyc
                      obtain ⟨Y, hY⟩ : ∃ Y : Bool, Y = (if ya then yb else yc) := ⟨_, rfl⟩
                      have HV : Hid (Ux.valN l vs x = Y) := by
                        show _ = _
                        rw [hY]; unfold Ux.valN; rw [HOP.out, HOa.out, HOb.out, HOc.out]; cases ya <;> cases yb <;> cases yc <;> rfl
                      have hc : ∀ W, Calls Tryz.prog 51 #[.bool ya, .bool yb, .bool yc] W fun r w' => r = .returned (.tuple #[.bool Y, .int .i64 0]) ∧ w' = W := fun W => by rw [hY]; exact ite3_any _ _ _ W
                      clear hY
                      clear hkd
                      have HRS : Hid (RowL vB 4 bx ((W1.setCell ⟨bx, t, none⟩ (.bool Y)).drew) bx n (Ux.mid (Ux.valN l) (Ux.av l) e (t + 1))) := by
                        show RowL _ _ _ _ _ _ _
                        rw [HUP.out, HV.out]; exact (HR1.out.set t _).drawn 1
                      have HBS : Hid (Below W0.heap.size W0 ((W1.setCell ⟨bx, t, none⟩ (.bool Y)).drew)) := (below_set HB1.out HBX.out).drew
                      clear HR1 HUP
                      have K0 : W1.cell? ⟨bg, 2, none⟩ = some (.func (.func 51) #[] #[]) ∧ W1.cell? ⟨nbk, 1, none⟩ = some (.int .i64 ja) ∧ W1.cell? ⟨bx, ja, none⟩ = some (.bool ya) ∧ W1.cell? ⟨nbk, 2, none⟩ = some (.int .i64 jb) ∧ W1.cell? ⟨bx, jb, none⟩ = some (.bool yb) ∧ W1.cell? ⟨nbk, 3, none⟩ = some (.int .i64 jc) ∧ W1.cell? ⟨bx, jc, none⟩ = some (.bool yc) := ⟨d2, c1, va, c2, vb, c3, vc⟩
                      have K1 : W1.drew.cell? ⟨bg, 2, none⟩ = some (.func (.func 51) #[] #[]) ∧ W1.drew.cell? ⟨nbk, 1, none⟩ = some (.int .i64 ja) ∧ W1.drew.cell? ⟨bx, ja, none⟩ = some (.bool ya) ∧ W1.drew.cell? ⟨nbk, 2, none⟩ = some (.int .i64 jb) ∧ W1.drew.cell? ⟨bx, jb, none⟩ = some (.bool yb) ∧ W1.drew.cell? ⟨nbk, 3, none⟩ = some (.int .i64 jc) ∧ W1.drew.cell? ⟨bx, jc, none⟩ = some (.bool yc) := ⟨d2, c1, va, c2, vb, c3, vc⟩
                      have K2 : ((W1.setCell ⟨bx, t, none⟩ (.bool Y)).drew).cell? ⟨bg, 2, none⟩ = some (.func (.func 51) #[] #[]) ∧ ((W1.setCell ⟨bx, t, none⟩ (.bool Y)).drew).cell? ⟨nbk, 1, none⟩ = some (.int .i64 ja) ∧ ((W1.setCell ⟨bx, t, none⟩ (.bool Y)).drew).cell? ⟨bx, ja, none⟩ = some (.bool ya) ∧ ((W1.setCell ⟨bx, t, none⟩ (.bool Y)).drew).cell? ⟨nbk, 2, none⟩ = some (.int .i64 jb) ∧ ((W1.setCell ⟨bx, t, none⟩ (.bool Y)).drew).cell? ⟨bx, jb, none⟩ = some (.bool yb) ∧ ((W1.setCell ⟨bx, t, none⟩ (.bool Y)).drew).cell? ⟨nbk, 3, none⟩ = some (.int .i64 jc) ∧ ((W1.setCell ⟨bx, t, none⟩ (.bool Y)).drew).cell? ⟨bx, jc, none⟩ = some (.bool yc) := ⟨far_set d2 hgx, far_set c1 hnx, off_set va (by omega), far_set c2 hnx, off_set vb (by omega), far_set c3 hnx, off_set vc (by omega)⟩
                      go_region_held3 (fun w' => w'.cell? ⟨bg, 2, none⟩ = some (.func (.func 51) #[] #[]) ∧ w'.cell? ⟨nbk, 1, none⟩ = some (.int .i64 ja) ∧ w'.cell? ⟨bx, ja, none⟩ = some (.bool ya) ∧ w'.cell? ⟨nbk, 2, none⟩ = some (.int .i64 jb) ∧ w'.cell? ⟨bx, jb, none⟩ = some (.bool yb) ∧ w'.cell? ⟨nbk, 3, none⟩ = some (.int .i64 jc) ∧ w'.cell? ⟨bx, jc, none⟩ = some (.bool yc))
                        (first | exact K2 | exact K1 | exact K0)
                        ((go_at_call 51; refine (hc _).mono ?_; rintro r w3 ⟨rfl, rfl⟩))
                      all_goals clear hc K0 K1 K2
                      all_goals go_wp2_with fail
                      go_roundw
                      case rel => exact ⟨t + 1, by go_num, by omega, HRS.out, HBS.out⟩
                      case measure => simp [intOf]; omega
              · have hte : t = n := by omega
                subst hte
                have hm : Ux.mid (Ux.valN l) (Ux.av l) e t = Ux.pre (Ux.valN l) e := by rw [HN.out]; exact Ux.mid_full
                rw [hm] at hR
                have cl := hR.cell (Ux.valL_at HN.out HNE.out)
                have hne := HNE.out
                have h0 : (0 : Int) ≤ (t : Int) - 1 := by omega
                have h1 : ((t : Int) - 1).toNat = t - 1 := by omega
                have h2 : (t : Int) - 1 < (t : Int) := by omega
                clear hm hR hne hlt
                go_wp2_with fail
                go_ret2
                exact ⟨by rw [HVAL.out]; rfl, HNB.out _ HB.out⟩
end Go.Proofs.YtjnpkdpljmkpiaaGreatDoor
