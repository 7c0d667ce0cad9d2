/- The reference: expressions in the places of streams: the walk of Put. -/
import Derived.Test.YtjnpkdpljmkpiaaGreatDoorJ14
namespace Go.Proofs.YtjnpkdpljmkpiaaGreatDoor
open Go.RowKit Go.Shelf Tx
def IsL (w : World) (c : List Value) (e : List Nd) : Prop := ∃ u, c = [u] ∧ IsE w u e
theorem keepsL : Keeps IsL := fun _ _ _ _ ⟨u, h1, h2⟩ hb => ⟨u, h1, Sl.below h2 hb⟩
theorem may_one {e : List Nd} (h : mayB e = true) : (T e (e.length - 1)).count = 1 ∧ (T e (e.length - 1)).wf = true ∧ (T e (e.length - 1)).size = e.length ∧ 1 ≤ e.length := by
  have hP := (mayB_iff e).1 h
  have hne := hP.ne
  exact ⟨(T_ops hP.inR (List.getElem?_eq_getElem (by omega : e.length - 1 < e.length))).2, T_wf hP.node _ (by omega), hP.size, hne⟩
theorem sub_last {e : List Nd} (h : mayB e = true) : subL e ((e.length : Int) - 1) = (T e (e.length - 1)).flat 0 := by
  have := (may_one h).2.2.2
  unfold subL
  rw [if_pos ⟨by omega, by omega, h⟩, show ((e.length : Int) - 1).toNat = e.length - 1 by omega]
def putE (L : List ByteArray) (A : List (List Nd)) (e : List Nd) : List Nd := (putF (byL L A) (T e (e.length - 1))).flat 0
theorem byL_size {L : List ByteArray} {A : List (List Nd)} (hl : L.length = A.length) {M : Nat} (hA : ∀ a ∈ A, mayB a = true ∧ a.length ≤ M) {s : ByteArray} {G : Fo} (h : byL L A s = some G) : G.count = 1 ∧ G.size ≤ M := by
  unfold byL at h
  obtain ⟨k, hk, rfl⟩ := Option.map_eq_some_iff.1 h
  have hlt := placeL_lt hk
  obtain ⟨a, ha⟩ : ∃ a, A[k]? = some a := ⟨_, List.getElem?_eq_getElem (by omega)⟩
  rw [List.getD_eq_getElem?_getD, ha]
  obtain ⟨h1, h2⟩ := hA a (List.mem_of_getElem? ha)
  have := may_one h1
  simp only [Option.getD_some]
  exact ⟨this.1, by omega⟩
theorem putT_end {L : List ByteArray} {A : List (List Nd)} (hl : L.length = A.length) {M : Nat} (hA : ∀ a ∈ A, mayB a = true ∧ a.length ≤ M) {e : List Nd} (he : mayB e = true) : (putT (byL L A) ((T e (e.length - 1)).flat 0) e.length).1 = putE L A e := by
  obtain ⟨h1, h2, h3, h4⟩ := may_one he
  have := (put_flat (byL L A) (fun s G hG => (byL_size hl hA hG).1) (T e (e.length - 1)) .no [] h2).1
  unfold putT putE
  rw [List.take_of_length_le (by rw [Fo.flat_len, h3]; exact Nat.le_refl _)]
  have h5 := congrArg Prod.fst this
  exact h5
set_option maxRecDepth 100000 in
set_option maxHeartbeats 8000000 in
theorem rbehind_gr (E : List Nd) (hE : E.length ≤ 1000000) (hS : ∀ x ∈ E, smallN 1000000000 x) (a : Option Addr) (c : Nat) (base : Nat)
    (O : List Nd) (vo : Value) (w : World) (hbw : base ≤ w.heap.size) (hO : OwnE base w vo O) (hOl : O.length ≤ 1000000)
    (HX : Hid (∀ W v', Gr w vo W v' → ∀ i x, E[i]? = some x → ∃ b o, a = some ⟨b, o, none⟩ ∧ ∀ j u, (ndL x)[j]? = some u → W.cell? ⟨b, o + i * 6 + j, none⟩ = some u)) :
    Calls Tryz.prog 54 #[vo, .slice a E.length c] w fun r w' => ∃ v, r = .returned v ∧ OwnE base w' v (behind O E) ∧ Gr w vo w' v := by
  obtain ⟨oa, oc, rfl, hoc⟩ := hO.form
  obtain ⟨d, hd⟩ : ∃ d, d = O.length := ⟨_, rfl⟩
  obtain ⟨n, hn⟩ : ∃ n, n = E.length := ⟨_, rfl⟩
  rw [← hd] at hO hoc hOl HX ⊢
  rw [← hn] at hE ⊢
  have HD := Lib.hid hd
  have HN := Lib.hid hn
  have HS := Lib.hid hS
  have HO0 := Lib.hid hO
  clear hd hn hS hO
  go_enter Tryz.func54, Tryz.ntmps54
  go_wp2_with fail
  go_loopw [0, 6] (fun ov i wr => ∃ (t : Nat), i = .int .i64 t ∧ t ≤ n ∧ OwnE base wr ov (O ++ (E.take t).map (mv d)) ∧ Gr w (.slice oa d oc) wr ov) (fun _ i _ => n - (intOf i).toNat)
  case atStart => exact ⟨0, rfl, Nat.zero_le _, by simpa using HO0.out, Gr.refl _ _⟩
  case round =>
    obtain ⟨t, rfl, ht, hO, hG⟩ := hrel
    obtain ⟨ol, hol⟩ : ∃ ol, ol = (O ++ (E.take t).map (mv d)).length := ⟨_, rfl⟩
    have hol2 : ol = d + t := by rw [hol, List.length_append, List.length_map, List.length_take, ← HD.out]; have := HN.out; omega
    obtain ⟨va, vc, hva, hvc⟩ := hO.form
    rw [← hol] at hva hvc
    subst hva
    have HOL := Lib.hid hol
    have HOL2 := Lib.hid hol2
    clear hol hol2
    by_cases hlt : t < n
    · obtain ⟨x, hx⟩ : ∃ x, E[t]? = some x := ⟨_, List.getElem?_eq_getElem (by have := HN.out; omega)⟩
      obtain ⟨b, o, rfl, hcell⟩ := HX.out wr _ hG t x hx
      obtain ⟨c0, c1, c2, c3, c4, c5⟩ := nd_cells hcell
      have hmove := move_any x d (HS.out x (List.mem_of_getElem? hx)) hOl wr
      have HXX := Lib.hid hx
      have htn : (t : Int) < (n : Int) := by omega
      have ht0 : (0 : Int) ≤ (t : Int) := by omega
      have hsz := hG.size
      have HG := Lib.hid hG
      have HOO := Lib.hid hO
      clear hx hcell hG hO
      go_wp2_with fail
      refine hmove.mono ?_
      rintro r w2 ⟨o', a', b', c', n', s', rfl, hy, hb2⟩
      have hO2 := HOO.out.below hb2
      have hG2 := HG.out.trans (Gr.of_below (.slice va ol vc) hb2)
      have HG2 := Lib.hid hG2
      have hsz2 : base ≤ w2.heap.size := by have := hG2.size; omega
      have hO3 : w2.ownsRow base 42 6 (.slice va ol vc) ol ((O ++ (E.take t).map (mv d)).flatMap ndL) := by have := hO2; unfold OwnE at this; rw [← HOL.out] at this; exact this
      have hol3 : ol ≤ 2000000 := by have := HOL2.out; omega
      obtain ⟨Ot, hOt⟩ : ∃ Ot, Ot = O ++ (E.take t).map (mv d) := ⟨_, rfl⟩
      rw [← hOt] at hO3
      have HOt := Lib.hid hOt
      clear hmove hO2 hG2 c0 c1 c2 c3 c4 c5 hOt
      go_wp2_with (at_builtin; refine wpList_app rowNd rfl _ _ rfl base _ _ _ rfl (hO3.alloc _) ⟨w2.heap.size, 0, none⟩ 1 [.int .i64 o', .int .i64 a', .int .i64 b', .int .i64 c', .int .i64 n', .string s'] rfl rfl ?c1 ?c2 ?c3 ?c4 (w2.heap.size + 1) ?c5 ?_)
      case c1 => exact World.news_of_block (heap_alloc_new w2 _)
      case c2 => simp [Value.oneCell']
      case c3 => omega
      case c4 => simp; omega
      case c5 => simp
      intro g cap w4 hown hgrow hat hlt2 hcap
      have hgr : Gr w2 (.slice va ol vc) w4 (.slice (some ⟨g, 0, none⟩) (ol + 1) cap) := gr_append hgrow hat
      have HF1 := Lib.hid (HG2.out.trans hgr)
      have HOW : Hid (OwnE base w4 (.slice (some ⟨g, 0, none⟩) (ol + 1) cap) (O ++ (E.take (t + 1)).map (mv d))) := by
        show OwnE _ _ _ _
        unfold OwnE
        rw [take_at HXX.out, List.map_append, ← List.append_assoc, List.length_append, List.flatMap_append, ← HOL.out, ← HOt.out, List.map_cons, List.map_nil, hy.out]
        exact hown
      clear hown hgrow hat hgr hO3
      go_wp2_with fail
      go_roundw
      case rel => exact ⟨t + 1, by go_num, by omega, HOW.out, HF1.out⟩
      case measure => simp [intOf]; omega
    · have hte : t = n := by omega
      subst hte
      have HFIN : Hid (OwnE base wr (.slice va ol vc) (behind O E)) := by
        show OwnE _ _ _ _
        unfold behind
        rw [← HD.out]
        rw [List.take_of_length_le (by have := HN.out; omega)] at hO
        exact hO
      have HG := Lib.hid hG
      clear hO hG
      go_wp2_with fail
      go_ret
      exact ⟨_, rfl, HFIN.out, HG.out⟩
theorem putT_row {f : ByteArray → Option Fo} {E : List Nd} {k : Nat} {x : Nd} {R : List Int} (hx : E[k]? = some x) (hk : (putT f E k).2.length = k) (hR : k < R.length) (h : ∀ j, j < k → R[j]? = (putT f E k).2[j]?) :
    ∀ j, j < k + 1 → (R.set k (((putT f E (k + 1)).1.length : Int) - 1))[j]? = (putT f E (k + 1)).2[j]? := fun j hj => by
  have e : (putT f E (k + 1)).2 = (putT f E k).2 ++ [((putT f E (k + 1)).1.length : Int) - 1] := by rw [putT_next f hx]; rfl
  rw [e, List.getElem?_set]
  by_cases q : k = j
  · subst q; rw [if_pos rfl, if_pos hR, List.getElem?_append_right (by omega), hk]; simp
  · rw [if_neg q, List.getElem?_append_left (by omega)]; exact h j (by omega)
theorem RowL.gr {α : Type} {f : α → Value} {T base g n : Nat} {w w' : World} {v v' : Value} {L : List α} (h : RowL f T base w g n L) (hg : Gr w v w' v') (hn : v.ownBlock ≠ some g) : RowL f T base w' g n L := by
  refine World.ownsRow.kept h (row := v.ownBlock) ⟨hg.os, hg.tape, hg.output, hg.size, fun k hk hne => hg.block k hk (fun e => hne e.symm)⟩ ?_
  exact Or.inr (fun e => hn e.symm)
set_option maxRecDepth 100000 in
set_option maxHeartbeats 8000000 in
theorem rPut_any (e : List Nd) (L : List ByteArray) (A : List (List Nd)) (M : Nat) (u v y : Value) (w : World) (he : mayB e = true) (hl : L.length = A.length) (hA : ∀ a ∈ A, mayB a = true ∧ a.length ≤ M) (hM : e.length * (M + 1) ≤ 500000) (hAl : A.length ≤ 100000)
    (hu : IsE w u e) (hv : Sl strC 1 w v L) (hy : Sg 1 IsL w y A) :
    Calls Tryz.prog 21 #[u, v, y] w fun r w' => ∃ v', r = .returned v' ∧ OwnE w.heap.size w' v' (putE L A e) ∧ Below w.heap.size w w' := by
  obtain ⟨hc1, hw1, hs1, hn1⟩ := may_one he
  have hM1 : M ≤ 500000 := by
    have : M + 1 ≤ e.length * (M + 1) := Nat.le_mul_of_pos_left _ (by omega)
    omega
  have hen : e.length ≤ 500000 := by
    have : e.length ≤ e.length * (M + 1) := Nat.le_mul_of_pos_right _ (by omega)
    omega
  have hMAY := rMay_any e u w (by omega) hu
  have hNORM := (fun (W : World) (hb : Below w.heap.size w W) => Norm_any e u W (by omega) (Sl.below hu hb))
  have hPLC := (fun (s : ByteArray) (W : World) (hb : Below w.heap.size w W) => place_any L s v W (by omega) (hv.below hb))
  have HMY : Hid (mayB e = true) := he
  obtain ⟨ua, uc, rfl, huc, -⟩ := hu.form
  obtain ⟨va, vc, rfl, hvc, -⟩ := hv.form
  obtain ⟨ya, yc, rfl, hyc, hyx⟩ := hy.form keepsL
  rw [he] at hMAY
  have hEND := putT_end hl hA he
  rw [sub_last he] at hNORM
  obtain ⟨E, hE⟩ : ∃ E, E = (T e (e.length - 1)).flat 0 := ⟨_, rfl⟩
  have hEl : E.length = e.length := by rw [hE, Fo.flat_len, hs1]
  have hNP : NodeP E := by rw [hE]; exact flat_NodeP hw1
  rw [← hE] at hEND hNORM
  obtain ⟨n, hn⟩ : ∃ n, n = e.length := ⟨_, rfl⟩
  obtain ⟨m, hm⟩ : ∃ m, m = A.length := ⟨_, rfl⟩
  rw [hl] at hPLC hvc ⊢
  rw [← hn] at hMAY hNORM hEND hEl huc hM hen hn1 ⊢
  rw [← hm] at hPLC hvc hyc hAl ⊢
  have HN := Lib.hid hn
  have HMAY := Lib.hid hMAY
  have HNORM := Lib.hid hNORM
  have HPLC := Lib.hid hPLC
  have HEND := Lib.hid hEND
  have HMM := Lib.hid hm
  have HL := Lib.hid hl
  have HA := Lib.hid hA
  have HEL := Lib.hid hEl
  have HNP := Lib.hid hNP
  have HYX := Lib.hid hyx
  have HSZ : Hid (∀ t, t ≤ n → (putT (byL L A) E t).1.length ≤ 500000) := fun t ht => by
    have h1 := putT_size (byL L A) M (fun s G hG => (byL_size hl hA hG).2) E t (by omega)
    have h2 : t * (M + 1) ≤ n * (M + 1) := Nat.mul_le_mul_right _ ht
    omega
  have HPL : Hid (∀ t, t ≤ n → (putT (byL L A) E t).2.length = t) := fun t ht => putT_len _ E t (by omega)
  have e0 : ((m : Int) != (m : Int)) = false := by simp
  clear hu hv hy hc1 hw1 hs1 he hyx hE hEl hNP hn hm hl hA hM hMAY hNORM hPLC hEND
  go_enter Tryz.func21, Tryz.ntmps21
  go_wp2_with fail
  refine HMAY.out.mono ?_
  rintro r w1 ⟨rfl, hb1⟩
  have HB1 := Lib.hid hb1
  clear hb1
  go_wp2_with fail
  go_loopw [7] (fun i wr => ∃ t : Nat, i = .int .i64 t ∧ t ≤ m ∧ Below w.heap.size w wr) (fun i _ => m - (intOf i).toNat)
  case atStart => exact ⟨0, rfl, Nat.zero_le _, HB1.out⟩
  case round =>
    obtain ⟨t, rfl, ht, hB⟩ := hrel
    by_cases hlt : t < m
    · obtain ⟨x, hx⟩ : ∃ x, A[t]? = some x := ⟨_, List.getElem?_eq_getElem (by have := HMM.out; omega)⟩
      obtain ⟨b, o, cs, rfl, ⟨q, rfl, hq⟩, hcell⟩ := HYX.out wr hB t x hx
      have cq := hcell 0 q rfl
      simp only [Nat.mul_one, Nat.add_zero] at cq
      obtain ⟨h1, h2⟩ := HA.out x (List.mem_of_getElem? hx)
      have hmay := rMay_any x q wr (by omega) hq
      rw [h1] at hmay
      obtain ⟨qa, qc, rfl, -, -⟩ := hq.form
      have htm : (t : Int) < (m : Int) := by omega
      have ht0 : (0 : Int) ≤ (t : Int) := by omega
      have HB := Lib.hid hB
      have HMAY2 := Lib.hid hmay
      clear hx hcell hq h1 h2 hB hmay
      go_wp2_with fail
      refine HMAY2.out.mono ?_
      rintro r w2 ⟨rfl, hb2⟩
      have HB2 : Hid (Below w.heap.size w w2) := below_next HB.out hb2
      clear hb2
      go_wp2_with fail
      go_roundw
      case rel => exact ⟨t + 1, by go_num, by omega, HB2.out⟩
      case measure => simp [intOf]; omega
    · have hte : t = m := by omega
      subst hte
      have HB := Lib.hid hB
      have hno := HNORM.out wr hB
      clear hB
      go_wp2_with fail
      refine hno.mono ?_
      rintro r w2 ⟨ev, rfl, hO, hB2⟩
      obtain ⟨i0, hi, hz0, hz1, hz2⟩ := info_parts infoI
      have hEI := OwnE.isE hO
      obtain ⟨ea, ec, rfl, hec, hx⟩ := hEI.form
      have hb2 : Below w.heap.size w w2 := below_next HB.out hB2
      obtain ⟨bx, hbx⟩ : ∃ bx, bx = w2.heap.size := ⟨_, rfl⟩
      have HX : Hid (∀ W, Below bx w2 W → ∀ i x, E[i]? = some x → ∃ b o, ea = some ⟨b, o, none⟩ ∧ b < bx ∧ ∀ j u, (ndL x)[j]? = some u → W.cell? ⟨b, o + i * 6 + j, none⟩ = some u) := fun W hW i x hi => by
        rw [hbx] at hW
        obtain ⟨b, o, rfl, g⟩ := hx W hW i x hi
        obtain ⟨b', o', h', g'⟩ := hx w2 (Below.refl _ _) i x hi
        cases h'
        refine ⟨b, o, rfl, ?_, g⟩
        rw [hbx]; exact World.block_lt_of_cell? w2 _ (g' 0 _ rfl)
      rw [HEL.out] at hec ⊢
      have HBW := Lib.hid hb2
      clear hno hO hEI hx hB2 hb2
      go_wp2_with (at_make; refine wpList_make_full _ rfl _ _ 102 rfl w2.heap.size 3 i0 (.int .i64 0) 1 Tryz.underlying102 hi hz0 hz1 _ _ _ _ n rfl rfl rfl rfl ?_ ?_ ?_ ?_; rotate_right; intro w3 hown3 hgrow3)
      case refine_1 => first | omega | (rw [hz2]; omega)
      case refine_2 => first | exact Nat.le_refl _ | (unfold maxLen; omega)
      case refine_3 => first | exact Nat.le_refl _ | omega
      have hB3 : Below w2.heap.size w2 w3 := (Below.refl _ _).grown hgrow3 (Nat.le_refl _) (by simp)
      have hR3 : RowL vI 3 w2.heap.size w3 w2.heap.size n (List.replicate n 0) := by
        unfold RowL
        have := hown3
        simp only [Value.cells, Nat.mul_one, toList_madeCells_one] at this
        simpa using this
      clear hown3 hgrow3 hi hz0 hz1 hz2
      rw [← hbx] at hB3 hR3 ⊢
      have HBX := Lib.hid hbx
      have HW0 : Hid (∀ W, Below bx w2 W → Below w.heap.size w W) := fun W hW => HBW.out.trans (hW.mono (by rw [hbx]; exact HBW.out.size))
      have hbw : w.heap.size ≤ bx := by rw [hbx]; exact HBW.out.size
      clear hbx
      go_loopw [8, 10] (fun ov i wr => ∃ (t : Nat) (R : List Int), i = .int .i64 t ∧ t ≤ n ∧ OwnE bx wr ov (putT (byL L A) E t).1 ∧ (∀ g, ov.ownBlock = some g → bx < g) ∧ RowL vI 3 bx wr bx n R ∧ (∀ j, j < t → R[j]? = (putT (byL L A) E t).2[j]?) ∧ Below bx w2 wr) (fun _ i _ => n - (intOf i).toNat)
      case atStart => exact ⟨0, _, rfl, Nat.zero_le _, OwnE.nil_ _ _, (fun g hg => by cases hg), hR3, (fun j h => by omega), hB3⟩
      case round =>
        obtain ⟨k, R, rfl, hk, hO, hov, hR, hat, hB⟩ := hrel
        clear hB3 hR3
        obtain ⟨oa, oc, hoa, hoc⟩ := hO.form
        obtain ⟨ol, hol⟩ : ∃ ol, ol = (putT (byL L A) E k).1.length := ⟨_, rfl⟩
        rw [← hol] at hoa hoc
        subst hoa
        have holb : ol ≤ 500000 := by rw [hol]; exact HSZ.out k hk
        have HOL := Lib.hid hol
        clear hol
        by_cases hlt2 : k < n
        · obtain ⟨x, hx⟩ : ∃ x, E[k]? = some x := ⟨_, List.getElem?_eq_getElem (by have := HEL.out; omega)⟩
          obtain ⟨b, o, rfl, hbb, hcell⟩ := HX.out wr hB k x hx
          obtain ⟨c0, c1, c2, c3, c4, c5⟩ := nd_cells hcell
          have HXX := Lib.hid hx
          have hkn : (k : Int) < (n : Int) := by omega
          have hk0 : (0 : Int) ≤ (k : Int) := by omega
          have HO := Lib.hid hO
          have HOV := Lib.hid hov
          have HR := Lib.hid hR
          have HAT := Lib.hid hat
          have HB := Lib.hid hB
          have hbl := hR.lt.2
          have hpl := HPLC.out x.s wr (HW0.out _ hB)
          obtain ⟨pl, hpl2⟩ : ∃ pl, pl = (if x.op = 3 then placeL L x.s else none) := ⟨_, rfl⟩
          have HPP := Lib.hid hpl2
          have hor : ((x.op == 3) = true ∧ Hid (placeI (placeL L x.s) = placeI pl)) ∨ ((x.op == 3) = false ∧ Hid (pl = none)) := by
            by_cases h3 : x.op = 3
            · exact Or.inl ⟨by simp [h3], by show _ = _; rw [hpl2, if_pos h3]⟩
            · exact Or.inr ⟨by simp [h3], by show _ = _; rw [hpl2, if_neg h3]⟩
          clear hx hcell hO hov hR hat hB hpl2
          go_upto_if 53 with fail
          go_cut [11] (fun s11 wx => s11 = .int .i64 (placeI pl) ∧ wx = wr)
          case first =>
            rcases hor with ⟨g1, g2⟩ | ⟨g1, g2⟩
            · go_wp2_with fail
              refine hpl.mono ?_
              rintro r w4 ⟨rfl, hw4⟩
              subst hw4
              rw [g2.out]
              go_wp2_with fail
              go_meet
              exact ⟨rfl, rfl⟩
            · go_wp2_with fail
              go_meet
              exact ⟨by rw [g2.out]; rfl, rfl⟩
          case rest =>
            obtain ⟨rfl, hW⟩ := hcut
            subst hW
            clear hor hpl
            cases pl with
            | some q =>
              have h3 : x.op = 3 ∧ placeL L x.s = some q := by
                have := HPP.out
                by_cases h : x.op = 3
                · rw [if_pos h] at this; exact ⟨h, this.symm⟩
                · rw [if_neg h] at this; cases this
              have hqm : q < t := by have := placeL_lt h3.2; rw [HMM.out, ← HL.out]; exact this
              obtain ⟨y, hy⟩ : ∃ y, A[q]? = some y := ⟨_, List.getElem?_eq_getElem (by have := HMM.out; omega)⟩
              obtain ⟨hy1, hy2⟩ := HA.out y (List.mem_of_getElem? hy)
              have hone := may_one hy1
              have HST : Hid (putT (byL L A) E (k + 1) = putS (byL L A) (putT (byL L A) E k) x) := putT_next _ HXX.out
              have HS1 : Hid ((putT (byL L A) E (k + 1)).1 = behind (putT (byL L A) E k).1 ((T y (y.length - 1)).flat 0)) := by
                show _ = _
                have e1 : byL L A x.s = some (T y (y.length - 1)) := by
                  unfold byL; rw [h3.2]; simp only [Option.map_some]; rw [List.getD_eq_getElem?_getD, hy]; rfl
                rw [HST.out]; unfold putS; simp only [if_pos h3.1, e1]
              obtain ⟨b2, o2, cs, rfl, ⟨uu, rfl, hu⟩, hcell⟩ := HYX.out wc (HW0.out _ HB.out) q y hy
              have cu := hcell 0 uu rfl
              simp only [Nat.mul_one, Nat.add_zero] at cu
              have hn2 := Norm_any y uu wc (by omega) hu
              rw [sub_last hy1] at hn2
              obtain ⟨pa, pc, rfl, -, -⟩ := hu.form
              have HN2 := Lib.hid hn2
              have hq0 : (0 : Int) ≤ (q : Int) := by omega
              have hqm2 : (q : Int) < (t : Int) := by omega
              have HONE := Lib.hid hone
              have HY2 := Lib.hid hy2
              clear hy hy1 hy2 hcell hu hn2 h3 hone
              simp only [placeI]
              clear c0 c1 c2 c3 c4 c5
              go_wp2_with fail
              refine HN2.out.mono ?_
              rintro r w4 ⟨nv, rfl, hNO, hb4⟩
              have hO4 := HO.out.below hb4
              have hR4 := HR.out.below hb4
              have hB4 : Below bx w2 w4 := HB.out.trans (hb4.mono (by omega))
              obtain ⟨na, nc, rfl, hnc⟩ := hNO.form
              obtain ⟨Fl, hFl⟩ : ∃ Fl, Fl = (T y (y.length - 1)).flat 0 := ⟨_, rfl⟩
              have hFll : Fl.length = y.length := by rw [hFl, Fo.flat_len, HONE.out.2.2.1]
              have hsm : ∀ z ∈ Fl, smallN 1000000000 z := fun z hz => small_mono (small_flat (T y (y.length - 1)) 0 z (by rw [← hFl]; exact hz)) (by rw [HONE.out.2.2.1]; have := HY2.out; omega)
              rw [← hFl] at hNO hnc ⊢
              have hbeh := rbehind_gr Fl (by rw [hFll]; have := HY2.out; omega) hsm na nc bx (putT (byL L A) E k).1 (.slice oa ol oc) w4 (by have := hb4.size; omega) hO4 (by rw [← HOL.out]; omega)
                (fun W v' hG i z hi => by
                  have h1 := OwnE.gr hNO hG (fun g hg e => by have e1 := (HO.out.low g hg).2; have e2 := (hNO.low g e).1; omega)
                  obtain ⟨a1, c1, h2, _, h3⟩ := (OwnE.isE h1).form
                  have h4 : na = a1 := by simpa using congrArg (fun v : Value => match v with | .slice a _ _ => a | _ => none) h2
                  subst h4
                  exact h3 W (Below.refl _ _) i z hi)
              obtain ⟨fl, hfl⟩ : ∃ fl, fl = Fl.length := ⟨_, rfl⟩
              rw [← hfl] at hbeh hnc ⊢
              have HBEH := Lib.hid hbeh
              have HR4 := Lib.hid hR4
              have HB4 := Lib.hid hB4
              have HFL := Lib.hid hFl
              clear hNO hO4 hR4 hB4 hFl hFll hsm hbeh hfl hb4 cu
              go_wp2_with fail
              refine HBEH.out.mono ?_
              rintro r w5 ⟨v5, rfl, hO5, hG5⟩
              rw [HFL.out, ← HS1.out] at hO5
              have hR5 := HR4.out.gr hG5 (fun e => by have := HOV.out bx e; omega)
              have hB5 : Below bx w2 w5 := Gr.below HB4.out hG5 (Nat.le_of_lt HR4.out.lt.2) (fun g hg => Nat.le_of_lt (HOV.out g hg))
              have hov5 : ∀ g, v5.ownBlock = some g → bx < g := fun g hg => by
                rcases hG5.own g hg with h | h
                · exact HOV.out g h
                · have := HR4.out.lt.2; omega
              obtain ⟨va5, vc5, hv5, hvc5⟩ := hO5.form
              obtain ⟨ol5, hol5⟩ : ∃ ol5, ol5 = (putT (byL L A) E (k + 1)).1.length := ⟨_, rfl⟩
              have hRW := putT_row HXX.out (HPL.out k hk) (by rw [HR.out.len]; omega) HAT.out
              have hol6 : ol5 ≤ 500000 := by rw [hol5]; exact HSZ.out (k + 1) (by omega)
              rw [← hol5] at hv5 hRW
              subst hv5
              have fk := hR5.free k
              have HRN := Lib.hid (hR5.set k ((ol5 : Int) - 1))
              have HO5 := Lib.hid (hO5.set (g := bx) (fun e => by have := hov5 bx e; omega) k (.int .i64 ((ol5 : Int) - 1)))
              have HB5 : Hid (Below bx w2 (w5.setCell ⟨bx, k, none⟩ (.int .i64 ((ol5 : Int) - 1)))) := below_set hB5 (Nat.le_refl _)
              have HOV5 := Lib.hid hov5
              have HRW := Lib.hid hRW
              obtain ⟨old, hold⟩ : ∃ old, R[k]? = some old := ⟨_, List.getElem?_eq_getElem (by rw [hR5.len]; omega)⟩
              have ck := hR5.cell hold
              clear hO5 hG5 hR5 hB5 hov5 hol5 hRW hold
              go_wp2_with fail
              go_roundw
              case rel => exact ⟨k + 1, R.set k ((ol5 : Int) - 1), by go_num, by omega, HO5.out, HOV5.out, HRN.out, HRW.out, HB5.out⟩
              case measure => simp [intOf]; omega
            | none =>
              have HST : Hid (putT (byL L A) E (k + 1) = putS (byL L A) (putT (byL L A) E k) x) := putT_next _ HXX.out
              have hby : (if x.op = 3 then byL L A x.s else none) = none := by
                have h1 := HPP.out
                by_cases h : x.op = 3
                · rw [if_pos h] at h1 ⊢; unfold byL; rw [← h1]; rfl
                · rw [if_neg h]
              obtain ⟨G, hG⟩ : ∃ G : Int → Int, G = fun j => (putT (byL L A) E k).2.getD j.toNat 0 := ⟨_, rfl⟩
              have HS1 : Hid ((putT (byL L A) E (k + 1)).1 = (putT (byL L A) E k).1 ++ [aim x ((kids x).map G)]) := by
                show _ = _
                rw [HST.out, hG]; unfold putS; simp only [hby]
              have HG : Hid (∀ (j : Nat), j < k → R[j]? = some (G (j : Int))) := fun j hj => by
                rw [HAT.out j hj, hG]
                simp only [Int.toNat_natCast]
                rw [List.getD_eq_getElem?_getD, List.getElem?_eq_getElem (by rw [HPL.out k hk]; exact hj)]; rfl
              have HIN : Hid (inR x k) := (HNP.out k x HXX.out).2.1
              simp only [placeI]
              clear hby hG
              go_wp2_with fail
              refine (rKids_any x wc).mono ?_
              rintro r w4 ⟨kv, rfl, hkr, hb4⟩
              have hO4 := HO.out.below hb4
              have hR4 := HR.out.below hb4
              have hB4 : Below bx w2 w4 := HB.out.trans (hb4.mono (by omega))
              obtain ⟨ka, kc, hkv, hkc⟩ := hkr.form
              subst hkv
              obtain ⟨kn, hkn2⟩ : ∃ kn, kn = (kids x).length := ⟨_, rfl⟩
              have hk3 := kids_len x
              rw [← hkn2] at hkr hkc hk3 ⊢
              have HKN := Lib.hid hkn2
              have HKR := Lib.hid hkr
              have HO4 := Lib.hid hO4
              have HR4 := Lib.hid hR4
              have HB4 := Lib.hid hB4
              obtain ⟨nb, hnb⟩ : ∃ nb, nb = w4.heap.size := ⟨_, rfl⟩
              have HNB := Lib.hid hnb
              have hxnb : bx < nb := by rw [hnb]; exact hR4.lt.2
              clear hkn2 hkr hO4 hR4 hB4 hb4 c0 c1 c2 c3 c4 c5 hnb
              go_wp2_with fail
              go_loopw [13, 14] (fun tv i wr => ∃ j : Nat, i = .int .i64 j ∧ j ≤ kn ∧ OwnI nb wr tv (((kids x).take j).map G) ∧ Below nb w4 wr) (fun _ i _ => kn - (intOf i).toNat)
              case atStart => exact ⟨0, rfl, Nat.zero_le _, World.ownsRow_nil _ _ _ _, Below.refl _ _⟩
              case round =>
                obtain ⟨j, rfl, hj, hT, hBr⟩ := hrel
                have hbf : Below w4.heap.size w4 wr := by rw [← HNB.out]; exact hBr
                obtain ⟨ta, tc, hta, htc⟩ := hT.form
                have hTl : (((kids x).take j).map G).length = j := by rw [List.length_map, List.length_take]; have := HKN.out; omega
                rw [hTl] at hta htc
                subst hta
                by_cases hlt3 : j < kn
                · obtain ⟨y, hy⟩ : ∃ y, (kids x)[j]? = some y := ⟨_, List.getElem?_eq_getElem (by have := HKN.out; omega)⟩
                  obtain ⟨hy0, hyk⟩ := HIN.out y (List.mem_of_getElem? hy)
                  obtain ⟨q, rfl⟩ : ∃ q : Nat, y = (q : Int) := ⟨y.toNat, by omega⟩
                  obtain ⟨g, rfl, hg1, hg2, cy, -⟩ := (HKR.out.below hbf).at hy
                  have cq := (HR4.out.below hbf).cell (HG.out q (by omega))
                  have HY : Hid (((kids x).take (j + 1)).map G = ((kids x).take j).map G ++ [G (q : Int)]) := by
                    show _ = _; rw [take_at hy, List.map_append]; rfl
                  have hT4 : wr.ownsRow nb 3 1 (.slice ta j tc) j ((((kids x).take j).map G).map vI) := by
                    have := hT; unfold OwnI at this; rw [hTl] at this; exact this
                  have hjk : (j : Int) < (kn : Int) := by omega
                  have hj0 : (0 : Int) ≤ (j : Int) := by omega
                  have hqn : (q : Int) < (n : Int) := by omega
                  obtain ⟨gq, hgq⟩ : ∃ gq, gq = G (q : Int) := ⟨_, rfl⟩
                  rw [← hgq] at cq HY
                  have hlow : ∀ g', (Value.slice ta j tc).ownBlock = some g' → nb ≤ g' := fun g' hg' => (hT.low g' hg').1
                  have HLOW := Lib.hid hlow
                  have HBR := Lib.hid hBr
                  have hszb : nb ≤ wr.heap.size := by rw [HNB.out]; exact hbf.size
                  obtain ⟨TT, hTT⟩ : ∃ TT, TT = ((kids x).take j).map G := ⟨_, rfl⟩
                  rw [← hTT] at hT4 HY hTl
                  have HTL := Lib.hid hTl
                  clear hy hgq hT hTl hlow hBr hbf hTT
                  go_wp2_with (at_builtin; refine wpList_app rowI rfl _ _ rfl nb _ _ _ rfl (hT4.alloc _) ⟨wr.heap.size, 0, none⟩ 1 [.int .i64 gq] rfl rfl ?c1 ?c2 ?c3 ?c4 (wr.heap.size + 1) ?c5 ?_)
                  case c1 => exact World.news_of_block (heap_alloc_new wr _)
                  case c2 => simp [Value.oneCell']
                  case c3 => omega
                  case c4 => simp; omega
                  case c5 => simp
                  intro g4 cap w5 hown hgrow hat4 hlt4 hcap
                  have hgr : Gr wr (.slice ta j tc) w5 (.slice (some ⟨g4, 0, none⟩) (j + 1) cap) := gr_append hgrow hat4
                  have HB5 : Hid (Below nb w4 w5) := Gr.below HBR.out hgr hszb HLOW.out
                  have HT5 : Hid (OwnI nb w5 (.slice (some ⟨g4, 0, none⟩) (j + 1) cap) (((kids x).take (j + 1)).map G)) := by
                    show OwnI _ _ _ _
                    rw [HY.out]
                    unfold OwnI
                    rw [List.length_append, HTL.out, List.map_append, List.map_cons, List.map_nil]
                    exact hown
                  clear hown hgrow hat4 hgr hT4
                  go_wp2_with fail
                  go_roundw
                  case rel => exact ⟨j + 1, by go_num, by omega, HT5.out, HB5.out⟩
                  case measure => simp [intOf]; omega
                · have hje : j = kn := by omega
                  subst hje
                  rw [List.take_of_length_le (by have := HKN.out; omega)] at hT hTl
                  obtain ⟨b2, o2, hab, hbb2, hcell⟩ := HX.out wr (HB4.out.trans (hBr.mono (Nat.le_of_lt hxnb))) k x HXX.out
                  cases hab
                  obtain ⟨c0, c1, c2, c3, c4, c5⟩ := nd_cells hcell
                  have haim := Lib.hid (aim_parts x _ (by rw [hTl]; exact hk3) _ wr hT.sl)
                  have HO6 := Lib.hid (HO4.out.below hbf)
                  have HR6 := Lib.hid (HR4.out.below hbf)
                  have HB6 : Hid (Below bx w2 wr) := HB4.out.trans (hBr.mono (Nat.le_of_lt hxnb))
                  have hbxw : bx < wr.heap.size := HR6.out.lt.2
                  clear hcell hT hTl hBr hbf
                  go_wp2_with fail
                  refine haim.out.mono ?_
                  rintro r w5 ⟨o', a', b', c', n', s', rfl, hy, hb5⟩
                  have hO7 := HO6.out.below hb5
                  have hR7 := HR6.out.below hb5
                  have hB7 : Below bx w2 w5 := HB6.out.trans (hb5.mono (Nat.le_of_lt hbxw))
                  have hbxw5 : bx < w5.heap.size := hR7.lt.2
                  have hO8 : w5.ownsRow bx 42 6 (.slice oa ol oc) ol ((putT (byL L A) E k).1.flatMap ndL) := by
                    have := hO7; unfold OwnE at this; rw [← HOL.out] at this; exact this
                  have HR7 := Lib.hid hR7
                  have HB7 := Lib.hid hB7
                  clear hO7 hR7 hB7 hb5 c0 c1 c2 c3 c4 c5
                  go_wp2_with (at_builtin; refine wpList_app rowNd rfl _ _ rfl bx _ _ _ rfl (hO8.alloc _) ⟨w5.heap.size, 0, none⟩ 1 [.int .i64 o', .int .i64 a', .int .i64 b', .int .i64 c', .int .i64 n', .string s'] rfl rfl ?c1 ?c2 ?c3 ?c4 (w5.heap.size + 1) ?c5 ?_)
                  case c1 => exact World.news_of_block (heap_alloc_new w5 _)
                  case c2 => simp [Value.oneCell']
                  case c3 => omega
                  case c4 => simp; omega
                  case c5 => simp
                  intro g cap w6 hown hgrow hat6 hlt6 hcap
                  have hgr : Gr w5 (.slice oa ol oc) w6 (.slice (some ⟨g, 0, none⟩) (ol + 1) cap) := gr_append hgrow hat6
                  have hgb : bx < g := by
                    rcases hat6 with h | h
                    · exact HOV.out g h
                    · omega
                  have hO9 : OwnE bx w6 (.slice (some ⟨g, 0, none⟩) (ol + 1) cap) (putT (byL L A) E (k + 1)).1 := by
                    rw [HS1.out, hy.out]
                    unfold OwnE
                    rw [List.length_append, List.flatMap_append, ← HOL.out]
                    exact hown
                  have hR9 := HR7.out.gr hgr (fun e => by have := HOV.out bx e; omega)
                  have hB9 : Below bx w2 w6 := Gr.below HB7.out hgr (Nat.le_of_lt hbxw5) (fun g' hg' => Nat.le_of_lt (HOV.out g' hg'))
                  have hol9 : (putT (byL L A) E (k + 1)).1.length = ol + 1 := by rw [HS1.out, List.length_append, ← HOL.out]; rfl
                  have hRW := putT_row HXX.out (HPL.out k hk) (by rw [HR.out.len]; omega) HAT.out
                  have e9 : ((putT (byL L A) E (k + 1)).1.length : Int) - 1 = (ol : Int) := by rw [hol9]; omega
                  rw [e9] at hRW
                  have fk := hR9.free k
                  obtain ⟨old, hold⟩ : ∃ old, R[k]? = some old := ⟨_, List.getElem?_eq_getElem (by rw [hR9.len]; omega)⟩
                  have ck := hR9.cell hold
                  have HRN := Lib.hid (hR9.set k (ol : Int))
                  have HO9 := Lib.hid (hO9.set (g := bx) (fun e => by have e' : g = bx := Option.some.inj e; omega) k (.int .i64 (ol : Int)))
                  have HB9 : Hid (Below bx w2 (w6.setCell ⟨bx, k, none⟩ (.int .i64 (ol : Int)))) := below_set hB9 (Nat.le_refl _)
                  have HRW := Lib.hid hRW
                  clear hown hgrow hat6 hgr hO8 hO9 hR9 hB9 hol9 hRW e9 hold
                  go_wp2_with fail
                  go_roundw
                  case rel => exact ⟨k + 1, R.set k (ol : Int), by go_num, by omega, HO9.out, (fun g' hg' => by cases hg'; exact hgb), HRN.out, HRW.out, HB9.out⟩
                  case measure => simp [intOf]; omega
        · have hke : k = n := by omega
          subst hke
          have HO : Hid (OwnE bx wr (.slice oa ol oc) (putE L A e)) := by show OwnE _ _ _ _; rw [← HEND.out]; exact hO
          have HB := Lib.hid hB
          clear hO hov hR hat hB
          go_wp2_with fail
          go_ret
          exact ⟨_, rfl, HO.out.mono hbw, HW0.out _ HB.out⟩
end Go.Proofs.YtjnpkdpljmkpiaaGreatDoor
