/- Rows told apart; the reference's Read. -/
import Derived.Test.YtffifljfbeaodaaDoorFk
namespace Go.Proofs.YtffifljfbeaodaaDoor
open Go.RowKit Go.Shelf

theorem lines_each {s : Fx.Bs} {j : Nat} {y : Fx.Bs} (h : (Fx.lines s)[j]? = some y) : y.length ≤ s.length := by
  have key : ∀ s : Fx.Bs, ∀ y ∈ Fx.lines s, y.length ≤ s.length := by
    refine Fx.lines_ind (P := fun s => ∀ y ∈ Fx.lines s, y.length ≤ s.length) ?_ ?_
    · intro y hy; rw [Fx.lines_nil] at hy; simp at hy
    · intro s hs ih y hy
      rw [Fx.lines_cons hs] at hy
      rcases List.mem_cons.1 hy with rfl | hy
      · exact (List.takeWhile_prefix _).length_le
      · have h1 := ih y hy
        have h2 := Fx.rest_len hs
        omega
  exact key s y (List.mem_of_getElem? h)
set_option maxHeartbeats 1000000 in
theorem Rows_any (a b : List (List Int)) (va vb : Value) (w : World) (ha : Rs w va a) (hb : Rs w vb b) (hla : a.length ≤ 10000000) (hrl : ∀ r ∈ a, r.length ≤ 10000000) :
    Calls Tryd.prog 12 #[va, vb] w fun e w' => e = .returned (.bool (a == b)) ∧ ∃ n, w' = w.drewN n := by
  obtain ⟨pa, ca, rfl, hcl, hca⟩ := ha.form
  obtain ⟨pb, cb, rfl, hcl2, hcb⟩ := hb.form
  clear ha hb
  by_cases hl : a.length = b.length
  · obtain ⟨n, hn⟩ : ∃ n, n = a.length := ⟨_, rfl⟩
    have hn2 : n = b.length := by omega
    rw [← hn] at hcl hla
    rw [← hn2] at hcl2
    rw [← hn, ← hn2]
    have HA : Hid (n = a.length) := hn
    have HB : Hid (n = b.length) := hn2
    clear hn hn2 hl
    go_enter Tryd.func12, Tryd.ntmps12
    go_wp2_with fail
    go_loopw [5] (fun i wr => ∃ k : Nat, k ≤ n ∧ i = .int .i64 k ∧ (∃ q, wr = w.drewN q) ∧ a.take k = b.take k) (fun i _ => n - (intOf i).toNat)
    case atStart => exact ⟨0, Nat.zero_le _, rfl, ⟨0, rfl⟩, by simp⟩
    case round =>
      obtain ⟨k, hk, rfl, ⟨q0, hW⟩, heq⟩ := hrel
      have hB : Below w.heap.size w wr := by rw [hW]; exact below_drawn (Below.refl _ _) _
      by_cases hlt : k < n
      · obtain ⟨x, hx⟩ : ∃ x, a[k]? = some x := ⟨_, List.getElem?_eq_getElem (by have := HA.out; omega)⟩
        obtain ⟨y, hy⟩ : ∃ y, b[k]? = some y := ⟨_, List.getElem?_eq_getElem (by have := HB.out; omega)⟩
        obtain ⟨b1, o1, u1, h1, c0, s1⟩ := hca wr hB k x hx
        obtain ⟨b2, o2, u2, h2, d0, s2⟩ := hcb wr hB k y hy
        subst h1 h2
        have HE : Hid ((a.take (k + 1) = b.take (k + 1)) ↔ x = y) := take_eq_snoc a b k x y hx hy heq
        have HNE : Hid (a = b → a.take (k + 1) = b.take (k + 1)) := fun q => by show _ = _; rw [q]
        have hk0 : (0 : Int) ≤ (k : Int) := by omega
        have hk1 : (k : Int) < (n : Int) := by omega
        have hcall : ∀ q, Calls Tryd.prog 20 #[u1, u2] (wr.drewN q) fun e w' => e = .returned (.bool (x == y)) ∧ ∃ m, w' = (wr.drewN q).drewN m := fun q =>
          Ints_any x y u1 u2 (wr.drewN q) (s1.below (below_drawn (Below.refl _ _) _)) (s2.below (below_drawn (Below.refl _ _) _)) (hrl x (List.mem_of_getElem? hx))
        obtain ⟨p1, e1, rfl, -, -⟩ := s1.form
        obtain ⟨p2, e2, rfl, -, -⟩ := s2.form
        have HWr : Hid (∃ q, wr = w.drewN q) := ⟨q0, hW⟩
        have HXX : Hid ((x == y) = true ↔ x = y) := beq_iff_eq
        generalize x.length = L1 at *
        generalize y.length = L2 at *
        obtain ⟨bb, hbb⟩ : ∃ bb, (x == y) = bb := ⟨_, rfl⟩
        rw [hbb] at HXX hcall
        clear hx hy heq hca hcb hW s1 s2 hrl hbb
        cases bb
        · have HX : Hid ((a == b) = false) := by
            show _ = _
            rw [beq_eq_false_iff_ne]; intro h
            exact absurd (HXX.out.2 (HE.out.1 (HNE.out h))) (by simp)
          go_wp2_with fail
          go_quiet ((go_at_call 20; exact Calls.quiet_of (hcall _)))
          go_wp2_with fail
          go_ret
          obtain ⟨q, hq⟩ := HWr.out
          exact ⟨ret_bool HX.out.symm, ⟨_, by rw [hq, World.drewN_drewN]⟩⟩
        · go_wp2_with fail
          go_quiet ((go_at_call 20; exact Calls.quiet_of (hcall _)))
          go_wp2_with fail
          go_roundw
          case rel =>
            obtain ⟨q, hq⟩ := HWr.out
            exact ⟨k + 1, by omega, by go_num, ⟨_, by rw [hq, World.drewN_drewN]⟩, HE.out.2 (HXX.out.1 (by first | rfl | trivial))⟩
          case measure => simp [intOf]; omega
      · have hke : k = n := by omega
        subst hke
        have HF : Hid ((a == b) = true) := by
          show _ = true
          have h1 := HA.out; have h2 := HB.out
          rw [List.take_of_length_le (by omega), List.take_of_length_le (by omega)] at heq
          rw [heq]; simp
        clear heq hca hcb
        go_wp2_with fail
        go_ret
        exact ⟨ret_bool HF.out.symm, ⟨q0, by first | exact hW | rfl⟩⟩
  · have hne : ((a.length : Int) != (b.length : Int)) = true := by simp; omega
    have HF : Hid ((a == b) = false) := by
      show _ = false
      rw [beq_eq_false_iff_ne]; rintro rfl; exact hl rfl
    clear hca hcb
    go_enter Tryd.func12, Tryd.ntmps12
    go_wp2_with fail
    go_ret
    exact ⟨ret_bool HF.out.symm, ⟨0, rfl⟩⟩

theorem Rw.push {base : Nat} {wr w4 : World} {v0 row : Value} {done : List (List Int)} {vs : List Value} {acc : List Int} {g cap k : Nat} (hk : done.length = k) (h1 : wr.ownsRow base 22 1 v0 k vs)
    (h2 : ∀ (i : Nat) (u : Value) (r : List Int), vs[i]? = some u → done[i]? = some r → wr.ownsRow base 3 1 u r.length (r.flatMap intC)) (hrow : wr.ownsRow base 3 1 row acc.length (acc.flatMap intC))
    (hown : w4.ownsRow base 22 1 (.slice (some ⟨g, 0, none⟩) (k + 1) cap) (k + 1) (vs ++ [row])) (hgrow : (wr.alloc (.cells #[row] 22)).grownBy w4 v0.ownBlock) : Rw base w4 (.slice (some ⟨g, 0, none⟩) (k + 1) cap) (done ++ [acc]) := by
  have hlv : vs.length = k := by have := h1.1; omega
  refine ⟨vs ++ [row], by rw [show (done ++ [acc]).length = k + 1 by simp [hk]]; exact hown, fun i u r' hu hr' => ?_⟩
  have up : ∀ {u : Value} {r' : List Int}, wr.ownsRow base 3 1 u r'.length (r'.flatMap intC) → w4.ownsRow base 3 1 u r'.length (r'.flatMap intC) := fun {u r'} h =>
    (h.alloc _).kept hgrow (row_apart (h.alloc (.cells #[row] 22)) (h1.alloc _) (by decide))
  by_cases hi : i < k
  · rw [List.getElem?_append_left (by omega)] at hu hr'
    exact up (h2 i u r' hu hr')
  · have hik : i = k := by
      have := (List.getElem?_eq_some_iff.1 hu).1
      simp at this; omega
    subst hik
    rw [List.getElem?_append_right (by omega)] at hu hr'
    simp [hlv] at hu; simp [hk] at hr'
    subst hu hr'
    exact up hrow

set_option maxRecDepth 100000 in
set_option maxHeartbeats 2000000 in
theorem rRead_any (T : List Int) (vt : Value) (s : ByteArray) (hs : s.size ≤ 1000000) (hTl : T.length ≤ 1000000) (w : World) (ht : Sl intC 1 w vt T) :
    Calls Tryd.prog 11 #[vt, .string s] w (ReadRes T s.data.toList w) := by
  have hform := ht.form
  obtain ⟨ta, tc, rfl, -, -⟩ := hform
  have C1 := Blk.new w #[.int .i64 0, .int .i64 0] 27
  have hba : Below w.heap.size w (w.alloc (.cells #[.int .i64 0, .int .i64 0] 27)) := (Below.refl _ _).alloc (Nat.le_refl _) _
  by_cases hm : rdMany T s.data.toList = true
  · have HM : Hid (rdMany T s.data.toList = true) := hm
    have hor : (¬ (s.size : Int) ≤ 100000) ∨ ((s.size : Int) ≤ 100000 ∧ ¬ (T.length : Int) ≤ 200) := by
      unfold rdMany at hm; rw [list_size] at hm; simp at hm; omega
    have HB : Hid (Below w.heap.size w (w.alloc (.cells #[.int .i64 7, .int .i64 (-1)] 27)) ∧ Blk (w.alloc (.cells #[.int .i64 7, .int .i64 (-1)] 27)) w.heap.size #[.int .i64 7, .int .i64 (-1)] 27) :=
      ⟨(Below.refl _ _).alloc (Nat.le_refl _) _, Blk.new _ _ _⟩
    clear ht hm C1 hba
    generalize T.length = n at hor hTl ⊢
    rcases hor with h1 | ⟨h1, h2⟩
    all_goals
      go_enter Tryd.func11, Tryd.ntmps11
      go_wp2_with fail
      obtain ⟨V, hV⟩ : ∃ V, V = (w.alloc (.cells #[.int .i64 7, .int .i64 (-1)] 27)) := ⟨_, rfl⟩
      rw [← hV] at HB ⊢
      obtain ⟨hb, q1⟩ := HB.out
      obtain ⟨c1, c2, -, -⟩ := two_cells q1
      clear hV
      refine bodyPost_ret (v := .tuple #[.slice none 0 0, .agg #[.int .i64 7, .int .i64 (-1)]]) (by simp [results, Tryd.results11, go_sem, c1, c2]) rfl ?_
      refine ⟨_, _, _, rfl, hb, ?_, ?_, ?_⟩
      · unfold rdRows; rw [HM.out]; exact Rs.nil_ _
      · unfold rdEr; rw [HM.out]; rfl
      · unfold rdAt; rw [HM.out]; rfl
  · have h1 : (s.size : Int) ≤ 100000 := by
      unfold rdMany at hm; rw [list_size] at hm; simp at hm; omega
    have h2 : (T.length : Int) ≤ 200 := by
      unfold rdMany at hm; rw [list_size] at hm; simp at hm; omega
    have HM : Hid (rdMany T s.data.toList = false) := by show _ = _; simpa using hm
    have HTY : Hid (Sl intC 1 w (.slice ta T.length tc) T) := ht
    obtain ⟨n, hn⟩ : ∃ n, n = T.length := ⟨_, rfl⟩
    rw [← hn] at h2 HTY ⊢
    clear hm ht hn
    obtain ⟨V0, hV0⟩ : ∃ V0, V0 = w.alloc (.cells #[.int .i64 0, .int .i64 0] 27) := ⟨_, rfl⟩
    go_enter Tryd.func11, Tryd.ntmps11
    go_wp2_with fail
    rw [← hV0] at C1 hba ⊢
    clear hV0
    refine (rLines_any s hs V0).mono ?_
    rintro e W1 ⟨v, L, rfl, hb1, hv, hL⟩
    have D1 := C1.below hb1
    have hw1 := below_next hba hb1
    have hnW : w.heap.size < W1.heap.size := D1.lt
    obtain ⟨la, lc, rfl, hlc, hlcell⟩ := hv.form
    obtain ⟨m, hm⟩ : ∃ m, m = L.length := ⟨_, rfl⟩
    rw [← hm] at hlc ⊢
    have HLM : Hid (m = L.length) := hm
    have HL : Hid (_ = _) := hL
    have hmb : m ≤ 1000000 := by
      have := Fx.lines_len s.data.toList
      rw [← hL, List.length_map, list_size] at this; omega
    clear hm hv hL C1 hba hb1
    go_wp2_with fail
    go_loopw [6, 8] (fun rows i wr => ∃ (j : Nat) (done : List (List Int)), i = .int .i64 j ∧ j ≤ m ∧ Below W1.heap.size W1 wr ∧ Rw W1.heap.size wr rows done ∧ done.length = j ∧
        Fx.readS T s.data.toList = (done ++ (Fx.readLs T ((Fx.lines s.data.toList).drop j)).1, (Fx.readLs T ((Fx.lines s.data.toList).drop j)).2)) (fun _ i _ => m - (intOf i).toNat)
    case atStart => exact ⟨0, [], rfl, Nat.zero_le _, Below.refl _ _, ⟨[], World.ownsRow_nil _ _ _ _, fun i u r hu => by simp at hu⟩, rfl, by simp [Fx.readS]⟩
    case round =>
      obtain ⟨j, done, rfl, hj, hB2, hR, hdl, hq⟩ := hrel
      have hbw := below_next hw1 hB2
      by_cases hlt : j < m
      · obtain ⟨y, hy⟩ : ∃ y, L[j]? = some y := ⟨_, List.getElem?_eq_getElem (by have := HLM.out; omega)⟩
        have hjm : (j : Int) < (m : Int) := by omega
        have hj0 : (0 : Int) ≤ (j : Int) := by omega
        obtain ⟨yb, yo, rfl, hyc⟩ := hlcell wr hB2 j y hy
        have cy := hyc 0 _ rfl
        simp only [Nat.mul_one, Nat.add_zero] at cy
        have hWj : (Fx.lines s.data.toList)[j]? = some y.data.toList := by rw [← HL.out, List.getElem?_map, hy]; rfl
        have hdr := drop_cons hWj
        have hys : y.size ≤ 1000000 := by
          have h3 : (y.data.toList.length : Nat) ≤ s.data.toList.length := lines_each hWj
          simp only [list_size] at h3; omega
        have hrow := fun W (hb : Below wr.heap.size wr W) => rrow_any T _ y hys (by omega) W (HTY.out.below (below_next hbw hb))
        have D2 := D1.below hB2
        have HJ : Hid (∀ l, Fx.readRow T y.data.toList = some l → Fx.readS T s.data.toList = ((done ++ [l]) ++ (Fx.readLs T ((Fx.lines s.data.toList).drop (j + 1))).1, (Fx.readLs T ((Fx.lines s.data.toList).drop (j + 1))).2)) := fun l hl => by
          rw [hq, hdr]; simp only [Fx.readLs, hl]; simp
        have HJN : Hid (Fx.readRow T y.data.toList = none → Fx.readS T s.data.toList = (done, true)) := fun hl => by
          rw [hq, hdr]; simp only [Fx.readLs, hl]; simp
        obtain ⟨vs, hR1, hR2⟩ := hR
        rw [hdl] at hR1
        have hv0 : ∃ ad len cap, u6 = .slice ad len cap := by
          rcases hR1.2 with ⟨h, _⟩ | ⟨g, cap, cur, h, _⟩ <;> exact ⟨_, _, _, h⟩
        obtain ⟨ad2, len2, cap2, rfl⟩ := hv0
        have HR1 : Hid (wr.ownsRow W1.heap.size 22 1 (.slice ad2 len2 cap2) j vs) := hR1
        have HR2 : Hid (∀ (i : Nat) (u : Value) (r : List Int), _ → _ → wr.ownsRow W1.heap.size 3 1 u r.length (r.flatMap intC)) := hR2
        clear hyc hlcell hy hq hWj hdr hR2 hR1 hlc
        go_wp2_with fail
        refine (hrow wr (Below.refl _ _)).mono ?_
        rintro e w3 ⟨v3, b3, rfl, hb3, hor⟩
        have hw3 := hb3.size
        have hwr := hB2.size
        have D3 := D2.below hb3
        have hb13 := below_next hB2 hb3
        have hb03 := below_next hbw hb3
        have R3 : w3.ownsRow W1.heap.size 22 1 (.slice ad2 len2 cap2) j vs := row_kept HR1.out (fun g _ _ hl => hb3.block g hl)
        have R4 : ∀ (i : Nat) (u : Value) (r : List Int), vs[i]? = some u → done[i]? = some r → w3.ownsRow W1.heap.size 3 1 u r.length (r.flatMap intC) := fun i u r hu hr => row_kept (HR2.out i u r hu hr) (fun g _ _ hl => hb3.block g hl)
        rcases hor with ⟨rfl, rfl, hn⟩ | ⟨rfl, l, hl, hown3⟩
        · have HQ : Hid (_ = _) := HJN.out hn
          obtain ⟨c1, c2, f1, f2⟩ := two_cells D3
          have HRS : Hid (Rs ((w3.setCell ⟨w.heap.size, 0, none⟩ (.int .i64 17)).setCell ⟨w.heap.size, 1, none⟩ (.int .i64 j)) (.slice ad2 len2 cap2) done) := by
            refine (Rw.kept (base := W1.heap.size) (W := w3) ⟨vs, by rw [hdl]; exact R3, R4⟩ (fun g hg _ => ?_)).rs
            rw [Below.heap_setCell _ _ _ _ (by simp; omega), Below.heap_setCell _ _ _ _ (by simp; omega)]
          have HBB : Hid (Below w.heap.size w ((w3.setCell ⟨w.heap.size, 0, none⟩ (.int .i64 17)).setCell ⟨w.heap.size, 1, none⟩ (.int .i64 j))) := (hb03.setCell (Nat.le_refl _) _).setCell (Nat.le_refl _) _
          clear hn R3 R4 hrow
          go_wp2_with fail
          refine bodyPost_ret (v := .tuple #[.slice ad2 len2 cap2, .agg #[.int .i64 17, .int .i64 j]]) (by simp [results, Tryd.results11, go_sem, c1, c2]) rfl ?_
          refine ⟨_, _, _, rfl, HBB.out, ?_, ?_, ?_⟩
          · unfold rdRows; rw [HM.out, HQ.out]; exact HRS.out
          · unfold rdEr; rw [HM.out, HQ.out]; rfl
          · unfold rdAt; rw [HM.out, HQ.out]; simp [hdl]
        · have HQ : Hid (_ = _) := HJ.out l hl
          have hv3 : ∃ ad len cap, v3 = .slice ad len cap := by
            rcases hown3.2 with ⟨h, _⟩ | ⟨g, cap, cur, h, _⟩ <;> exact ⟨_, _, _, h⟩
          obtain ⟨ad3, len3, cap3, rfl⟩ := hv3
          have HO3 : Hid (w3.ownsRow W1.heap.size 3 1 (.slice ad3 len3 cap3) l.length (l.flatMap intC)) := hown3.mono (by omega)
          have HR4 : Hid (∀ (i : Nat) (u : Value) (r : List Int), vs[i]? = some u → done[i]? = some r → w3.ownsRow W1.heap.size 3 1 u r.length (r.flatMap intC)) := R4
          clear hl hown3 R4 hrow
          go_wp2_with (at_builtin; refine wpList_app rowR rfl _ _ rfl W1.heap.size _ _ _ rfl (R3.alloc _) ⟨w3.heap.size, 0, none⟩ 1 [.slice ad3 len3 cap3] rfl rfl (cell_one_new _ _ _) (by simp [Value.oneCell']) (by omega) (by simp; omega) (w3.heap.size + 1) (by simp) ?_)
          intro g cap w4 hown hgrow _ _ _
          have HLOW : ∀ q, (Value.slice ad2 len2 cap2).ownBlock = some q → W1.heap.size ≤ q := fun q hq => (R3.lt q hq).1
          have hRw := Rw.push (base := W1.heap.size) hdl R3 HR4.out HO3.out hown hgrow
          have hb14 : Below W1.heap.size W1 w4 := (hb13.alloc (by omega) _).trans (below_grown' hgrow (by simp; omega) HLOW)
          clear hown hgrow R3 HLOW
          go_wp2_with fail
          go_roundw
          case rel => exact ⟨j + 1, done ++ [l], by go_num, by omega, hb14, hRw, by simp [hdl], HQ.out⟩
          case measure => simp [intOf]; omega
      · have hje : j = m := by omega
        subst hje
        obtain ⟨c1, c2, f1, f2⟩ := two_cells (D1.below hB2)
        have HQ : Hid (Fx.readS T s.data.toList = (done, false)) := by
          show _ = _
          have : (Fx.lines s.data.toList).drop j = [] := by rw [List.drop_eq_nil_iff, ← HL.out, List.length_map]; have := HLM.out; omega
          rw [hq, this]; simp [Fx.readLs]
        obtain ⟨ad, vc, rfl⟩ := hR.form
        have HRS : Hid (Rs ((wr.setCell ⟨w.heap.size, 0, none⟩ (.int .i64 0)).setCell ⟨w.heap.size, 1, none⟩ (.int .i64 0)) (.slice ad done.length vc) done) := by
          refine (hR.kept (fun g hg _ => ?_)).rs
          rw [Below.heap_setCell _ _ _ _ (by simp; omega), Below.heap_setCell _ _ _ _ (by simp; omega)]
        have HBB : Hid (Below w.heap.size w ((wr.setCell ⟨w.heap.size, 0, none⟩ (.int .i64 0)).setCell ⟨w.heap.size, 1, none⟩ (.int .i64 0))) := (hbw.setCell (Nat.le_refl _) _).setCell (Nat.le_refl _) _
        clear hq hlcell hR
        go_wp2_with fail
        refine bodyPost_ret (v := .tuple #[.slice ad j vc, .agg #[.int .i64 0, .int .i64 0]]) (by simp [results, Tryd.results11, go_sem, c1, c2, hdl]) rfl ?_
        refine ⟨_, _, _, rfl, HBB.out, ?_, ?_, ?_⟩
        · unfold rdRows; rw [HM.out, HQ.out, ← hdl]; exact HRS.out
        · unfold rdEr; rw [HM.out, HQ.out]; rfl
        · unfold rdAt; rw [HM.out, HQ.out]; rfl
end Go.Proofs.YtffifljfbeaodaaDoor
