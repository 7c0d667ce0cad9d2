/- Expressions in a row: which is the first that is so; are two the same: the walk. Walks: Witness; Value's and Witness's other ways. Walks of the reference: digit, Row. -/
import Derived.Test.YtjnpkdpljmkpiaaGreatDoorJ15
import Derived.Test.YtjnpkdpljmkpiaaGreatDoorJ18
import Derived.Test.YtjnpkdpljmkpiaaGreatDoorJ25
namespace Go.Proofs.YtjnpkdpljmkpiaaGreatDoor
open Go.RowKit Go.Shelf Tx
set_option maxRecDepth 100000 in
set_option maxHeartbeats 4000000 in
theorem Equal_any (e f : List Nd) (u v : Value) (w : World) (he : e.length ≤ 1000000000) (hf : f.length ≤ 1000000000) (hu : IsE w u e) (hv : IsE w v f) :
    Calls Tryz.prog 91 #[u, v] w fun r w' => r = .returned (.bool (decide (e = f))) ∧ ∃ k, w' = w.drewN k := by
  obtain ⟨a, c, rfl, hc, hx⟩ := hu.form
  obtain ⟨a2, c2, rfl, hc2, hx2⟩ := hv.form
  obtain ⟨n, hn⟩ : ∃ n, n = e.length := ⟨_, rfl⟩
  obtain ⟨m, hm⟩ : ∃ m, m = f.length := ⟨_, rfl⟩
  have HX := Lib.hid hx
  have HX2 := Lib.hid hx2
  rw [← hn] at he hc ⊢
  rw [← hm] at hf hc2 ⊢
  have HN := Lib.hid hn
  have HM := Lib.hid hm
  clear hu hv hx hx2 hn hm
  by_cases hl : n = m
  · subst hl
    have e0 : ((n : Int) != (n : Int)) = false := by simp
    go_enter Tryz.func91, Tryz.ntmps91
    go_wp2_with fail
    go_loopw [13] (fun i wr => ∃ t : Nat, i = .int .i64 t ∧ t ≤ n ∧ (∀ j, j < t → e[j]? = f[j]?) ∧ ∃ k, wr = w.drewN k) (fun i _ => n - (intOf i).toNat)
    case atStart => exact ⟨0, rfl, Nat.zero_le _, fun j h => by omega, 0, rfl⟩
    case round =>
      obtain ⟨t, rfl, ht, hok, k, hk⟩ := hrel
      by_cases hlt : t < n
      · obtain ⟨x, hx⟩ : ∃ x, e[t]? = some x := ⟨_, List.getElem?_eq_getElem (by have := HN.out; omega)⟩
        obtain ⟨y, hy⟩ : ∃ y, f[t]? = some y := ⟨_, List.getElem?_eq_getElem (by have := HM.out; omega)⟩
        have hbw : Below w.heap.size w wr := by rw [hk]; exact below_drawn (Below.refl _ _) k
        have hbd : Below w.heap.size w wr.drew := hbw.drew
        obtain ⟨b, o, rfl, hcell⟩ := HX.out _ hbd t x hx
        obtain ⟨c0, c1, c2, c3, c4, c5⟩ := nd_cells hcell
        obtain ⟨b2, o2, rfl, hcell2⟩ := HX2.out _ hbd t y hy
        obtain ⟨d0, d1, d2, d3, d4, d5⟩ := nd_cells hcell2
        obtain ⟨q, hq⟩ : ∃ q, q = decide (x = y) := ⟨_, rfl⟩
        have HEQ : ∀ W, (Op.equalIn 10000 42 (.agg #[.int .i64 x.op, .int .i64 x.a, .int .i64 x.b, .int .i64 x.c, .int .i64 x.n, .string x.s]) (.agg #[.int .i64 y.op, .int .i64 y.a, .int .i64 y.b, .int .i64 y.c, .int .i64 y.n, .string y.s])).run Tryz.prog W = .ok q W := fun W => by rw [hq]; exact eqNd x y W
        have HXX := Lib.hid hx
        have HYY := Lib.hid hy
        have HQ := Lib.hid hq
        have HOK := Lib.hid hok
        have HK := Lib.hid hk
        have htn : (t : Int) < (n : Int) := by omega
        have ht0 : (0 : Int) ≤ (t : Int) := by omega
        clear hx hy hq hok hk hcell hcell2 hbw hbd
        cases q
        · have HF : Hid (decide (e = f) = false) := by
            show _ = _
            rw [decide_eq_false_iff_not]
            intro h
            have h1 := HXX.out
            rw [h, HYY.out] at h1
            have h2 := HQ.out
            rw [Option.some.inj h1] at h2
            simp at h2
          go_wp2_with fail
          go_region
          all_goals
            go_wp2_with fail
            go_ret
            exact ⟨ret_bool' HF.out.symm, k + 1, by rw [HK.out]; rfl⟩
        · have HALL : Hid (∀ j, j < t + 1 → e[j]? = f[j]?) := fun j hj => by
            by_cases h : j = t
            · subst h
              rw [HXX.out, HYY.out]
              have := HQ.out
              rw [of_decide_eq_true this.symm]
            · exact HOK.out j (by omega)
          go_wp2_with fail
          go_region
          all_goals
            go_wp2_with fail
            go_roundw
            case rel => exact ⟨t + 1, by go_num, by omega, HALL.out, k + 1, by rw [HK.out]; rfl⟩
            case measure => simp [intOf]; omega
      · have hte : t = n := by omega
        subst hte
        have HF : Hid (decide (e = f) = true) := by
          show _ = _
          rw [decide_eq_true_iff]
          apply List.ext_getElem?
          intro j
          rcases Nat.lt_or_ge j t with h | h
          · exact hok j h
          · rw [List.getElem?_eq_none (by have := HN.out; omega), List.getElem?_eq_none (by have := HM.out; omega)]
        have HK := Lib.hid hk
        clear hok hk
        go_wp2_with fail
        go_ret
        exact ⟨ret_bool' HF.out.symm, k, HK.out⟩
  · have e0 : ((n : Int) != (m : Int)) = true := by rw [bne_iff_ne]; omega
    have HF : Hid (decide (e = f) = false) := by
      show _ = _
      rw [decide_eq_false_iff_not]
      intro h
      exact hl (by rw [HN.out, HM.out, h])
    clear hl
    go_enter Tryz.func91, Tryz.ntmps91
    go_wp2_with fail
    go_ret
    exact ⟨ret_bool' HF.out.symm, 0, rfl⟩
def firstI {α : Type} (p : α → Bool) (l : List α) : Int := match l.findIdx? p with
  | some k => k
  | none => -1
theorem firstI_at {α : Type} {p : α → Bool} {l : List α} {k : Nat} {x : α} (hk : l[k]? = some x) (hp : p x = true) (hno : (l.take k).any p = false) : firstI p l = (k : Int) := by
  unfold firstI
  have : l.findIdx? p = some k := by
    rw [List.findIdx?_eq_some_iff_getElem]
    obtain ⟨h1, h2⟩ := List.getElem?_eq_some_iff.1 hk
    refine ⟨h1, by rw [h2]; exact hp, fun j hj => ?_⟩
    have h3 := List.any_eq_false.1 hno (l[j]'(by omega)) (by
      rw [List.mem_take_iff_getElem]; exact ⟨j, by omega, rfl⟩)
    simpa using h3
  rw [this]
theorem firstI_none {α : Type} {p : α → Bool} {l : List α} (hno : l.any p = false) : firstI p l = -1 := by
  unfold firstI
  have : l.findIdx? p = none := by
    rw [List.findIdx?_eq_none_iff]
    intro x hx
    have := List.any_eq_false.1 hno x hx
    simpa using this
  rw [this]
theorem any_upTo {α : Type} (p : α → Bool) {l : List α} {k : Nat} {x : α} (h : l[k]? = some x) : (l.take (k + 1)).any p = ((l.take k).any p || p x) := by
  rw [take_at h, List.any_append]; simp
theorem firstI_sign {α : Type} (p : α → Bool) (l : List α) : decide (0 ≤ firstI p l) = l.any p := by
  cases h : l.any p with
  | false => rw [firstI_none h]; rfl
  | true =>
    unfold firstI
    cases hq : l.findIdx? p with
    | none =>
      rw [List.findIdx?_eq_none_iff] at hq
      obtain ⟨x, hx, hp⟩ := List.any_eq_true.1 h
      have := hq x hx
      rw [hp] at this; cases this
    | some k => simp
theorem cutFn_any (x y : List Nd) (xb : Nat) (xv u : Value) (w : World) (hxb : w.cell? ⟨xb, 0, none⟩ = some xv) (hxl : x.length ≤ 1000000000) (hyl : y.length ≤ 1000000000) (hx : IsE w xv x) (hy : IsE w u y) :
    Calls Tryz.prog 90 #[u, .pointer (some ⟨xb, 0, none⟩)] w fun r w' => r = .returned (.bool (decide (x = y))) ∧ ∃ k, w' = w.drewN k := by
  have hE := Equal_any x y xv u w hxl hyl hx hy
  obtain ⟨a, c, rfl, -, -⟩ := hx.form
  clear hx hy
  go_enter Tryz.func90, Tryz.ntmps90
  go_wp2_with fail
  refine hE.mono ?_
  rintro r w1 ⟨rfl, k, rfl⟩
  clear hE
  go_wp2_with fail
  go_ret
  exact ⟨rfl, k, rfl⟩
set_option maxRecDepth 100000 in
set_option maxHeartbeats 1000000 in
theorem indexCut_any (A : List (List Nd)) (x : List Nd) (v : Value) (xb : Nat) (xv : Value) (w : World) (hl : A.length ≤ 1000000) (hv : Sg 1 IsL w v A) (hxb : w.cell? ⟨xb, 0, none⟩ = some xv) (hxl : x.length ≤ 1000000000) (hA : ∀ y ∈ A, y.length ≤ 1000000000) (hx : IsE w xv x) :
    Calls Tryz.prog 82 #[v, .func (.func 90) #[] #[.pointer (some ⟨xb, 0, none⟩)]] w fun r w' => r = .returned (.int .i64 (firstI (fun y => decide (x = y)) A)) ∧ ∃ k, w' = w.drewN k := by
  obtain ⟨a, c, rfl, hc, hcell⟩ := hv.form keepsL
  obtain ⟨n, hn⟩ : ∃ n, n = A.length := ⟨_, rfl⟩
  rw [← hn] at hc hl ⊢
  have HN := Lib.hid hn
  have HC := Lib.hid hcell
  have HXB := Lib.hid hxb
  have HX := Lib.hid hx
  clear hn hv hcell hxb hx
  go_enter Tryz.func82, Tryz.ntmps82
  go_wp2_with fail
  go_loopw [8] (fun i wr => ∃ k : Nat, i = .int .i64 k ∧ k ≤ n ∧ (A.take k).any (fun y => decide (x = y)) = false ∧ ∃ q, wr = w.drewN q) (fun i _ => n - (intOf i).toNat)
  case atStart => exact ⟨0, rfl, Nat.zero_le _, rfl, 0, rfl⟩
  case round =>
    obtain ⟨k, rfl, hk, hno, q, hW⟩ := hrel
    have hbw : Below w.heap.size w wr := by rw [hW]; exact below_drawn (Below.refl _ _) q
    by_cases hlt : k < n
    · obtain ⟨y, hi⟩ : ∃ y, A[k]? = some y := ⟨_, List.getElem?_eq_getElem (by have := HN.out; omega)⟩
      obtain ⟨b, o, cs, rfl, ⟨u, rfl, hu⟩, g⟩ := HC.out wr hbw k y hi
      have cx := g 0 _ rfl
      simp only [Nat.mul_one, Nat.add_zero] at cx
      have hkn : (k : Int) < (n : Int) := by omega
      have hk0 : (0 : Int) ≤ (k : Int) := by omega
      have hf := cutFn_any x y xb xv u wr (by rw [hW]; exact HXB.out) hxl (hA y (List.mem_of_getElem? hi)) (Sl.below HX.out hbw) hu
      obtain ⟨d, hd⟩ : ∃ d, d = decide (x = y) := ⟨_, rfl⟩
      rw [← hd] at hf
      have HD := Lib.hid hd
      have HI := Lib.hid hi
      have HNO := Lib.hid hno
      have HW := Lib.hid hW
      obtain ⟨ua, uc, rfl, -, -⟩ := hu.form
      clear g hi hno hu hbw hd hW
      go_wp2_with fail
      refine hf.mono ?_
      rintro r w1 ⟨rfl, q2, hq2⟩
      have HQ2 := Lib.hid hq2
      clear hf hq2
      cases d
      · have HF : Hid ((A.take (k + 1)).any (fun y => decide (x = y)) = false) := by show _ = _; rw [any_upTo _ HI.out, HNO.out, ← HD.out]; rfl
        go_wp2_with fail
        go_roundw
        case rel => exact ⟨k + 1, by go_num, by omega, HF.out, q + q2, by rw [HQ2.out, HW.out, World.drewN_drewN]⟩
        case measure => simp [intOf]; omega
      · have HF : Hid (firstI (fun y => decide (x = y)) A = (k : Int)) := firstI_at HI.out HD.out.symm HNO.out
        go_wp2_with fail
        go_ret
        exact ⟨by rw [HF.out]; rfl, q + q2, by rw [HQ2.out, HW.out, World.drewN_drewN]⟩
    · have hke : k = n := by omega
      subst hke
      have HF : Hid (firstI (fun y => decide (x = y)) A = -1) := by
        rw [List.take_of_length_le (by have := HN.out; omega)] at hno
        exact firstI_none hno
      have HW := Lib.hid hW
      clear hno hW hbw
      go_wp2_with fail
      go_ret
      exact ⟨by rw [HF.out]; rfl, q, HW.out⟩
theorem mayFn_any (y : List Nd) (u : Value) (w : World) (hyl : y.length ≤ 1000000000) (hy : IsE w u y) :
    Calls Tryz.prog 43 #[u] w fun r w' => r = .returned (.bool (!mayB y)) ∧ Below w.heap.size w w' := by
  have hE := May_any y u w hyl hy
  obtain ⟨a, c, rfl, -, -⟩ := hy.form
  clear hy
  go_enter Tryz.func43, Tryz.ntmps43
  go_wp2_with fail
  refine hE.mono ?_
  rintro r w1 ⟨rfl, hb⟩
  have HB := Lib.hid hb
  clear hE hb
  go_wp2_with fail
  go_ret
  exact ⟨rfl, HB.out⟩
set_option maxRecDepth 100000 in
set_option maxHeartbeats 1000000 in
theorem indexMay_any (A : List (List Nd)) (v : Value) (w : World) (hl : A.length ≤ 1000000) (hv : Sg 1 IsL w v A) (hA : ∀ y ∈ A, y.length ≤ 1000000000) :
    Calls Tryz.prog 82 #[v, .func (.func 43) #[] #[]] w fun r w' => r = .returned (.int .i64 (firstI (fun y => !mayB y) A)) ∧ Below w.heap.size w w' := by
  obtain ⟨a, c, rfl, hc, hcell⟩ := hv.form keepsL
  obtain ⟨n, hn⟩ : ∃ n, n = A.length := ⟨_, rfl⟩
  rw [← hn] at hc hl ⊢
  have HN := Lib.hid hn
  have HC := Lib.hid hcell
  obtain ⟨nb, hnb⟩ : ∃ nb, nb = w.heap.size := ⟨_, rfl⟩
  have HNB := Lib.hid hnb
  clear hn hv hcell
  go_enter Tryz.func82, Tryz.ntmps82
  go_wp2_with fail
  go_loopw [8] (fun i wr => ∃ k : Nat, i = .int .i64 k ∧ k ≤ n ∧ (A.take k).any (fun y => !mayB y) = false ∧ Below nb w wr) (fun i _ => n - (intOf i).toNat)
  case atStart => exact ⟨0, rfl, Nat.zero_le _, rfl, Below.refl _ _⟩
  case round =>
    obtain ⟨k, rfl, hk, hno, hW⟩ := hrel
    have hbw : Below w.heap.size w wr := by rw [hnb] at hW; exact hW
    have HBW := Lib.hid hbw
    by_cases hlt : k < n
    · obtain ⟨y, hi⟩ : ∃ y, A[k]? = some y := ⟨_, List.getElem?_eq_getElem (by have := HN.out; omega)⟩
      obtain ⟨b, o, cs, rfl, ⟨u, rfl, hu⟩, g⟩ := HC.out wr hbw k y hi
      have cx := g 0 _ rfl
      simp only [Nat.mul_one, Nat.add_zero] at cx
      have hkn : (k : Int) < (n : Int) := by omega
      have hk0 : (0 : Int) ≤ (k : Int) := by omega
      have hf := mayFn_any y u wr (hA y (List.mem_of_getElem? hi)) hu
      obtain ⟨d, hd⟩ : ∃ d, d = !mayB y := ⟨_, rfl⟩
      rw [← hd] at hf
      have HD := Lib.hid hd
      have HI := Lib.hid hi
      have HNO := Lib.hid hno
      obtain ⟨ua, uc, rfl, -, -⟩ := hu.form
      clear g hi hno hu hbw hd hW hnb
      go_wp2_with fail
      refine hf.mono ?_
      rintro r w1 ⟨rfl, hb⟩
      have HB2 := Lib.hid (below_next HBW.out hb)
      clear hf hb
      cases d
      · have HF : Hid ((A.take (k + 1)).any (fun y => !mayB y) = false) := by show _ = _; rw [any_upTo _ HI.out, HNO.out, ← HD.out]; rfl
        go_wp2_with fail
        go_roundw
        case rel => exact ⟨k + 1, by go_num, by omega, HF.out, by rw [HNB.out]; exact HB2.out⟩
        case measure => simp [intOf]; omega
      · have HF : Hid (firstI (fun y => !mayB y) A = (k : Int)) := firstI_at HI.out HD.out.symm HNO.out
        go_wp2_with fail
        go_ret
        exact ⟨by rw [HF.out]; rfl, HB2.out⟩
    · have hke : k = n := by omega
      subst hke
      have HF : Hid (firstI (fun y => !mayB y) A = -1) := by
        rw [List.take_of_length_le (by have := HN.out; omega)] at hno
        exact firstI_none hno
      clear hno hW hbw hnb
      go_wp2_with fail
      go_ret
      exact ⟨by rw [HF.out]; rfl, HBW.out⟩
theorem containsMay_any (A : List (List Nd)) (v : Value) (w : World) (hl : A.length ≤ 1000000) (hv : Sg 1 IsL w v A) (hA : ∀ y ∈ A, y.length ≤ 1000000000) :
    Calls Tryz.prog 42 #[v, .func (.func 43) #[] #[]] w fun r w' => r = .returned (.bool (A.any (fun y => !mayB y))) ∧ Below w.heap.size w w' := by
  have hI := indexMay_any A v w hl hv hA
  have hs := firstI_sign (fun y => !mayB y) A
  obtain ⟨n, hn⟩ : ∃ n, n = firstI (fun y => !mayB y) A := ⟨_, rfl⟩
  rw [← hn] at hI hs
  have HS := Lib.hid hs
  obtain ⟨a, c, rfl, -, -⟩ := hv.form keepsL
  clear hs hn hv
  go_enter Tryz.func42, Tryz.ntmps42
  go_wp2_with fail
  refine hI.mono ?_
  rintro r w1 ⟨rfl, hb⟩
  have HB := Lib.hid hb
  clear hI hb
  go_wp2_with fail
  go_ret
  exact ⟨ret_bool HS.out, HB.out⟩
set_option maxHeartbeats 1000000 in
theorem isLogic_any (op : Int) (w : World) : Calls Tryz.prog 88 #[.int .i64 op] w fun r w' => r = .returned (.bool (Ux.isLogic op)) ∧ w' = w := by
  have HF : Hid (Ux.isLogic op = ((op == 2) || (op == 4) || (op == 6) || (op == 7) || (op == 8) || (op == 9) || (op == 26))) := by
    show _ = _
    unfold Ux.isLogic
    rw [Bool.eq_iff_iff]; simp; omega
  go_enter Tryz.func88, Tryz.ntmps88
  go_wp2_with fail
  all_goals
    go_ret
    exact ⟨ret_bool (by rw [HF.out]; simp_all), rfl⟩
end Go.Proofs.YtjnpkdpljmkpiaaGreatDoor
namespace Go.Proofs.YtjnpkdpljmkpiaaGreatDoor
open Go.RowKit
set_option maxRecDepth 20000
theorem infoBool : (Tryz.prog.info? 4).map (fun i => (i.zero, i.size, i.bytes)) = some (some (.bool false), 1, 1) := by kernel_rfl
end Go.Proofs.YtjnpkdpljmkpiaaGreatDoor
namespace Go.Proofs.YtjnpkdpljmkpiaaGreatDoor
open Go.RowKit
set_option maxRecDepth 20000
set_option maxHeartbeats 400000 in
theorem digit_any (w : World) (row i vars : Nat) (hi : i < vars) (hv : vars ≤ 30) :
    Calls Tryz.prog 63 #[.int .i64 row, .int .i64 i, .int .i64 vars] w fun e w' => e = .returned (.bool (Dd.rowEnv vars row i)) ∧ w' = w := by
  have hd : ((((row : Int) / 2 ^ (vars - 1 - i)).tmod 2) == 1) = Dd.rowEnv vars row i := by
    unfold Dd.rowEnv
    rw [Nat.testBit_eq_decide_div_mod_eq]
    have e : ((row : Int) / 2 ^ (vars - 1 - i)).tmod 2 = ((row / 2 ^ (vars - 1 - i) % 2 : Nat) : Int) := by
      rw [Int.tmod_eq_emod_of_nonneg (Int.ediv_nonneg (by omega) (Int.le_of_lt (Int.pow_pos (by decide))))]
      simp
    rw [e, Bool.eq_iff_iff]
    generalize row / 2 ^ (vars - 1 - i) % 2 = m
    rw [beq_iff_eq, decide_eq_true_eq]
    omega
  have HD : Hid _ := hd
  clear hd
  go_enter Tryz.func63, Tryz.ntmps63
  go_wp2
  go_ret
  exact ⟨by rw [← HD.out]; rfl, rfl⟩
theorem SlBools.own {w : World} {base g cap : Nat} {l : List Bool} {e : TypeId} (h : w.ownsRow base e 1 (.slice (some ⟨g, 0, none⟩) l.length cap) l.length (l.map Value.bool)) : SlBools w (.slice (some ⟨g, 0, none⟩) l.length cap) l := by
  refine Or.inr ⟨g, 0, cap, rfl, (h.lt g rfl).2, fun i hi => ?_⟩
  rw [Nat.zero_add, h.cellAt i (by omega)]
  simp [List.getD, hi]
theorem pow30 {v : Nat} (h : v ≤ 30) : 2 ^ v ≤ 1073741824 := Nat.pow_le_pow_right (by omega) h
theorem shl_one {v : Nat} (h : v ≤ 30) : IntKind.i64.wrap ((2 : Int) ^ v) = ((2 ^ v : Nat) : Int) := by
  have := pow30 h
  have e : ((2 : Int) ^ v) = ((2 ^ v : Nat) : Int) := by simp
  rw [e]
  generalize 2 ^ v = n at *
  exact IntWalk.i64_in _ (by omega)
theorem SlBools.own' {w : World} {base n : Nat} {v : Value} {l : List Bool} {e : TypeId} (h : w.ownsRow base e 1 v n (l.map Value.bool)) (hl : l.length = n) : SlBools w v l := by
  subst hl
  have h0 := h
  obtain ⟨_, h2⟩ := h
  rcases h2 with ⟨rfl, h3⟩ | ⟨g, cap, cur, rfl, _⟩
  · exact Or.inl ⟨rfl, List.eq_nil_of_length_eq_zero h3⟩
  · exact SlBools.own h0
theorem rowList_take (vars k j : Nat) (hj : j < vars) : (Dd.rowList vars k).take (j + 1) = (Dd.rowList vars k).take j ++ [Dd.rowEnv vars k j] := by
  have hl : j < (Dd.rowList vars k).length := by simp [Dd.rowList]; exact hj
  rw [List.take_succ_eq_append_getElem hl]
  simp [Dd.rowList]
set_option maxHeartbeats 1000000 in
theorem Row_any (w : World) (k vars : Nat) (hv : vars ≤ 30) :
    Calls Tryz.prog 27 #[.int .i64 k, .int .i64 vars] w fun e w' => ∃ v, e = .returned v ∧ SlBools w' v (Dd.rowList vars k) ∧ Below w.heap.size w w' := by
  obtain ⟨i0, hi, hz0, hz1, hz2⟩ := info_parts infoBool
  go_enter Tryz.func27, Tryz.ntmps27
  go_wp2_with fail
  go_loopw [5, 6] (fun v i wr => ∃ j : Nat, j ≤ vars ∧ i = .int .i64 j ∧ wr.ownsRow w.heap.size 4 1 v j (((Dd.rowList vars k).take j).map Value.bool) ∧ Below w.heap.size w wr) (fun _ i _ => vars - (intOf i).toNat)
  case atStart => exact ⟨0, Nat.zero_le _, rfl, World.ownsRow_nil _ _ _ _, Below.refl _ _⟩
  case round =>
    obtain ⟨j, hj, rfl, hown, hB⟩ := hrel
    by_cases hlt : j < vars
    · have HT : Hid ((Dd.rowList vars k).take (j + 1) = (Dd.rowList vars k).take j ++ [Dd.rowEnv vars k j]) := rowList_take vars k j hlt
      go_wp2_with fail
      refine (digit_any wr k j vars hlt hv).mono ?_
      rintro e w3 ⟨rfl, hw3⟩
      subst hw3
      go_wp2_with (at_builtin; refine wpList_append_own _ rfl _ _ 31 rfl w.heap.size 4 i0 (.bool false) 1 1 Tryz.underlying31 hi hz0 hz1 hz2 rfl (by decide) _ _ _ rfl (hown.alloc _) ⟨w3.heap.size, 0, none⟩ 1 1 [.bool (Dd.rowEnv vars k j)] rfl rfl ?c1 ?c2 ?c3 ?c4 ?c5 ?_)
      case c1 => exact World.news_of_block (heap_alloc_new w3 _)
      case c2 => simp [Value.oneCell']
      case c3 => unfold maxLen; omega
      case c4 => omega
      case c5 => have := hB.size; simp; omega
      intro v' w4 hown4 hgrow4 _
      have hB4 : Below w.heap.size w w4 := (hB.alloc hB.size _).grown hgrow4 (by have := hB.size; simp; omega) (fun q hq => (hown.lt q hq).1)
      clear hgrow4
      go_wp2_with fail
      go_roundw
      case rel => exact ⟨j + 1, by omega, by go_num, by rw [HT.out]; simpa using hown4, hB4⟩
      case measure => simp [intOf]; omega
    · have hje : j = vars := by omega
      subst hje
      have hT : (Dd.rowList j k).take j = Dd.rowList j k := List.take_of_length_le (by simp [Dd.rowList])
      rw [hT] at hown
      clear hT
      go_wp2_with fail
      go_ret
      exact ⟨_, rfl, SlBools.own' hown (by simp [Dd.rowList]), hB⟩
end Go.Proofs.YtjnpkdpljmkpiaaGreatDoor
