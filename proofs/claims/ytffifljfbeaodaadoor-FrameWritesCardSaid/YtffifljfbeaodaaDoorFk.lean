/- The reference's row; rows told apart. -/
import Derived.Test.YtffifljfbeaodaaDoorFj
namespace Go.Proofs.YtffifljfbeaodaaDoor
open Go.RowKit Go.Shelf

def RowPost (T : List Int) (s : Fx.Bs) (w : World) (e : Ending) (w' : World) : Prop :=
  ∃ v b, e = .returned (.tuple #[v, .bool b]) ∧ Below w.heap.size w w' ∧ ((b = false ∧ v = .slice none 0 0 ∧ Fx.readRow T s = none) ∨ (b = true ∧ ∃ l, Fx.readRow T s = some l ∧ w'.ownsRow w.heap.size 3 1 v l.length (l.flatMap intC)))

set_option maxRecDepth 100000 in
set_option maxHeartbeats 2000000 in
theorem rrow_any (T : List Int) (vt : Value) (s : ByteArray) (hs : s.size ≤ 1000000) (hTl : T.length ≤ 1000000) (w : World) (ht : Sl intC 1 w vt T) :
    Calls Tryd.prog 19 #[vt, .string s] w (RowPost T s.data.toList w) := by
  obtain ⟨ta, tc, rfl, htc, hcell⟩ := ht.form
  obtain ⟨n, hn⟩ : ∃ n, n = T.length := ⟨_, rfl⟩
  rw [← hn] at htc hTl ⊢
  have HN : Hid (n = T.length) := hn
  clear hn ht
  go_enter Tryd.func19, Tryd.ntmps19
  go_wp2_with fail
  refine (rWords_any s hs w).mono ?_
  rintro e W1 ⟨v, L, rfl, hb1, hv, hL⟩
  obtain ⟨la, lc, rfl, hlc, hlcell⟩ := hv.form
  obtain ⟨m, hm⟩ : ∃ m, m = L.length := ⟨_, rfl⟩
  rw [← hm] at hlc ⊢
  have HM : Hid (m = L.length) := hm
  have HL : Hid (_ = _) := hL
  have hmb : m ≤ 1000001 := by
    have h1 := Fx.words_sum s.data.toList
    have h2 : ∀ l : List Fx.Bs, l.length ≤ (l.map (fun w => w.length + 1)).sum := by
      intro l; induction l with
      | nil => simp
      | cons a l ih => simp; omega
    have h3 := h2 (Fx.words s.data.toList)
    rw [← hL, List.length_map, ← hm, hL] at h3
    rw [list_size] at h1; omega
  clear hm hv hL
  by_cases hmn : m = n
  · subst hmn
    have hne : ((m : Int) != (m : Int)) = false := by simp
    go_wp2_with fail
    go_loopw [7, 8] (fun row i wr => ∃ (j : Nat) (acc : List Int), i = .int .i64 j ∧ j ≤ m ∧ Below W1.heap.size W1 wr ∧ wr.ownsRow W1.heap.size 3 1 row acc.length (acc.flatMap intC) ∧ acc.length = j ∧
        Fx.readZ T (Fx.words s.data.toList) = (Fx.readZ (T.drop j) ((Fx.words s.data.toList).drop j)).map (acc ++ ·)) (fun _ i _ => m - (intOf i).toNat)
    case atStart => exact ⟨0, [], rfl, Nat.zero_le _, Below.refl _ _, World.ownsRow_nil _ _ _ _, rfl, by simp⟩
    case round =>
      obtain ⟨j, acc, rfl, hj, hB2, hrow, hal, hz⟩ := hrel
      by_cases hlt : j < m
      · obtain ⟨x, hx⟩ : ∃ x, T[j]? = some x := ⟨_, List.getElem?_eq_getElem (by have := HN.out; omega)⟩
        obtain ⟨y, hy⟩ : ∃ y, L[j]? = some y := ⟨_, List.getElem?_eq_getElem (by have := HM.out; omega)⟩
        have hjm : (j : Int) < (m : Int) := by omega
        have hj0 : (0 : Int) ≤ (j : Int) := by omega
        have hb01 : Below w.heap.size w wr := hb1.trans (hB2.mono hb1.size)
        obtain ⟨xb, xo, rfl, hxc⟩ := hcell wr hb01 j x hx
        obtain ⟨yb, yo, rfl, hyc⟩ := hlcell wr hB2 j y hy
        have cx := hxc 0 _ rfl
        have cy := hyc 0 _ rfl
        simp only [Nat.mul_one, Nat.add_zero] at cx cy
        have hWj : (Fx.words s.data.toList)[j]? = some y.data.toList := by rw [← HL.out, List.getElem?_map, hy]; rfl
        have hrd : Fx.readZ (T.drop j) ((Fx.words s.data.toList).drop j) = (match Fx.readW x y.data.toList with
            | some n => match Fx.readZ (T.drop (j + 1)) ((Fx.words s.data.toList).drop (j + 1)) with
              | some l => some (n :: l)
              | none => none
            | none => none) := by rw [drop_cons hx, drop_cons hWj]; rfl
        have hys : y.size ≤ 1000000 := by
          have h2 := sum_mem (fun w : Fx.Bs => w.length + 1) (List.mem_of_getElem? hWj)
          have h3 := Fx.words_sum s.data.toList
          simp only [list_size] at h2 h3; omega
        have hword := rword_any x y hys
        have HWN : Hid (∀ m, Fx.readW x y.data.toList = some m → wordN x y.data.toList = m) := fun m h => wordN_is h
        have HRD : Hid (_ = _) := hrd
        have HZ : Hid (_ = _) := hz
        clear hxc hyc hcell hlcell hx hy hz hrd hWj hlc
        cases hw : Fx.readW x y.data.toList with
        | none =>
          have HF : Hid (Fx.readRow T s.data.toList = none) := by
            show _ = _
            unfold Fx.readRow
            rw [HZ.out, HRD.out, hw]; rfl
          rw [hw] at hword
          generalize wordN x y.data.toList = nn at hword
          clear hw HWN HRD HZ hrow
          go_wp2_with fail
          go_quiet ((go_at_call 37; exact Calls.quiet_of_same (hword _)))
          go_wp2_with fail
          go_ret2
          exact ⟨_, _, rfl, below_drawn hb01 _, Or.inl ⟨rfl, rfl, HF.out⟩⟩
        | some n' =>
          have hn' := HWN.out n' hw
          rw [hw, hn'] at hword
          have HW : Hid (Fx.readW x y.data.toList = some n') := hw
          clear hw hn' HWN
          go_wp2_with fail
          go_quiet ((go_at_call 37; exact Calls.quiet_of_same (hword _)))
          have hB3 : Below W1.heap.size W1 (wr.drewN nq) := below_drawn hB2 _
          have hr3 : (wr.drewN nq).ownsRow W1.heap.size 3 1 u7 acc.length (acc.flatMap intC) := hrow
          clear hB2 hrow cx cy hb01
          generalize (wr.drewN nq) = w3 at hB3 hr3 ⊢
          have hsz := hB3.size
          clear hword
          go_wp2_with (at_builtin; refine wpList_app rowI rfl _ _ rfl W1.heap.size _ _ _ rfl (hr3.alloc _) ⟨w3.heap.size, 0, none⟩ 1 [.int .i64 n'] rfl rfl (cell_one_new _ _ _) (by simp [Value.oneCell']) (by omega) (by simp; omega) (w3.heap.size + 1) (by simp) ?_)
          intro g cap w4 hown hgrow _ _ _
          have hb4 : Below W1.heap.size W1 w4 := (hB3.alloc (by omega) _).trans (below_grown' hgrow (by simp; omega) (fun q hq => (hr3.lt q hq).1))
          clear hgrow hr3
          go_wp2_with fail
          go_roundw
          case rel =>
            refine ⟨j + 1, acc ++ [n'], by go_num, by omega, hb4, by simpa [hal, List.flatMap_append, intC] using hown, by simp [hal], ?_⟩
            rw [HZ.out, HRD.out, HW.out]
            cases Fx.readZ (T.drop (j + 1)) ((Fx.words s.data.toList).drop (j + 1)) <;> simp
          case measure => simp [intOf]; omega
      · have hjm : j = m := by omega
        subst hjm
        have HF : Hid (Fx.readRow T s.data.toList = some acc) := by
          show _ = _
          unfold Fx.readRow
          have e1 : T.drop j = [] := by rw [List.drop_eq_nil_iff]; have := HN.out; omega
          have e2 : (Fx.words s.data.toList).drop j = [] := by rw [List.drop_eq_nil_iff, ← HL.out, List.length_map]; have := HM.out; omega
          rw [hz, e1, e2]; simp [Fx.readZ]
        have hb01 : Below w.heap.size w wr := hb1.trans (hB2.mono hb1.size)
        clear hz hcell hlcell
        go_wp2_with fail
        go_ret2
        exact ⟨_, _, rfl, hb01, Or.inr ⟨rfl, acc, HF.out, hrow.mono hb1.size⟩⟩
  · have hne : ((m : Int) != (n : Int)) = true := by simp; omega
    have HF : Hid (Fx.readRow T s.data.toList = none) := by
      show _ = _
      cases hq : Fx.readRow T s.data.toList with
      | none => rfl
      | some l =>
        have h1 := (Fx.readZ_len hq).2
        rw [← HL.out, List.length_map] at h1
        have h2 := HM.out; have h3 := HN.out
        omega
    clear hcell hlcell
    go_wp2_with fail
    go_ret2
    exact ⟨_, _, rfl, hb1, Or.inl ⟨rfl, rfl, HF.out⟩⟩

/-! ### rows told apart -/
theorem take_eq_snoc {α : Type} (a b : List α) (k : Nat) (x y : α) (ha : a[k]? = some x) (hb : b[k]? = some y) (h : a.take k = b.take k) : (a.take (k + 1) = b.take (k + 1)) ↔ x = y := by
  rw [List.take_add_one, List.take_add_one, ha, hb, h]
  constructor
  · intro q; have := List.append_cancel_left q; simpa using this
  · intro q; rw [q]

set_option maxHeartbeats 1000000 in
theorem Ints_any (a b : List Int) (va vb : Value) (w : World) (ha : Sl intC 1 w va a) (hb : Sl intC 1 w vb b) (hla : a.length ≤ 10000000) :
    Calls Tryd.prog 20 #[va, vb] w fun e w' => e = .returned (.bool (a == b)) ∧ ∃ n, w' = w.drewN n := by
  obtain ⟨pa, ca, rfl, hcl, hca⟩ := ha.form
  obtain ⟨pb, cb, rfl, hcl2, hcb⟩ := hb.form
  clear ha hb
  by_cases hl : a.length = b.length
  · obtain ⟨n, hn⟩ : ∃ n, n = a.length := ⟨_, rfl⟩
    have hn2 : n = b.length := by omega
    rw [← hn] at hcl hla
    rw [← hn2] at hcl2
    rw [← hn, ← hn2]
    have HA : Hid (n = a.length) := hn
    have HB : Hid (n = b.length) := hn2
    clear hn hn2 hl
    go_enter Tryd.func20, Tryd.ntmps20
    go_wp2_with fail
    go_loopw [5] (fun i wr => ∃ k : Nat, k ≤ n ∧ i = .int .i64 k ∧ (∃ q, wr = w.drewN q) ∧ a.take k = b.take k) (fun i _ => n - (intOf i).toNat)
    case atStart => exact ⟨0, Nat.zero_le _, rfl, ⟨0, rfl⟩, by simp⟩
    case round =>
      obtain ⟨k, hk, rfl, ⟨q0, hW⟩, heq⟩ := hrel
      have hB : Below w.heap.size w wr := by rw [hW]; exact below_drawn (Below.refl _ _) _
      by_cases hlt : k < n
      · obtain ⟨x, hx⟩ : ∃ x, a[k]? = some x := ⟨_, List.getElem?_eq_getElem (by have := HA.out; omega)⟩
        obtain ⟨y, hy⟩ : ∃ y, b[k]? = some y := ⟨_, List.getElem?_eq_getElem (by have := HB.out; omega)⟩
        obtain ⟨b1, o1, h1, k1⟩ := hca wr hB k x hx
        obtain ⟨b2, o2, h2, k2⟩ := hcb wr hB k y hy
        subst h1 h2
        have HE : Hid ((a.take (k + 1) = b.take (k + 1)) ↔ x = y) := take_eq_snoc a b k x y hx hy heq
        have HNE : Hid (a = b → a.take (k + 1) = b.take (k + 1)) := fun q => by show _ = _; rw [q]
        have hk0 : (0 : Int) ≤ (k : Int) := by omega
        have hk1 : (k : Int) < (n : Int) := by omega
        have c0 : wr.cell? ⟨b1, o1 + k, none⟩ = some (.int .i64 x) := by have := k1 0 _ rfl; simpa using this
        have d0 : wr.cell? ⟨b2, o2 + k, none⟩ = some (.int .i64 y) := by have := k2 0 _ rfl; simpa using this
        have HWr : Hid (∃ q, wr = w.drewN q) := ⟨q0, hW⟩
        clear hx hy heq hca hcb k1 k2 hW
        by_cases hxy : x = y
        · have hne : (x != y) = false := by simp [hxy]
          have HX : Hid (x = y) := hxy
          clear hxy
          go_wp2_with fail
          go_quiet (fail)
          go_wp2_with fail
          go_roundw
          case rel =>
            obtain ⟨q, hq⟩ := HWr.out
            exact ⟨k + 1, by omega, by go_num, ⟨_, by rw [hq, World.drewN_drewN]⟩, HE.out.2 HX.out⟩
          case measure => simp [intOf]; omega
        · have hne : (x != y) = true := by simpa using hxy
          have HX : Hid ((a == b) = false) := by
            show _ = _
            rw [beq_eq_false_iff_ne]; intro h; exact hxy (HE.out.1 (HNE.out h))
          clear hxy
          go_wp2_with fail
          go_quiet (fail)
          go_wp2_with fail
          go_ret
          obtain ⟨q, hq⟩ := HWr.out
          exact ⟨ret_bool HX.out.symm, ⟨_, by rw [hq, World.drewN_drewN]⟩⟩
      · have hke : k = n := by omega
        subst hke
        have HF : Hid ((a == b) = true) := by
          show _ = true
          have h1 := HA.out; have h2 := HB.out
          rw [List.take_of_length_le (by omega), List.take_of_length_le (by omega)] at heq
          rw [heq]; simp
        clear heq hca hcb
        go_wp2_with fail
        go_ret
        exact ⟨ret_bool HF.out.symm, ⟨q0, by first | exact hW | rfl⟩⟩
  · have hne : ((a.length : Int) != (b.length : Int)) = true := by simp; omega
    have HF : Hid ((a == b) = false) := by
      show _ = false
      rw [beq_eq_false_iff_ne]; rintro rfl; exact hl rfl
    clear hca hcb
    go_enter Tryd.func20, Tryd.ntmps20
    go_wp2_with fail
    go_ret
    exact ⟨ret_bool HF.out.symm, ⟨0, rfl⟩⟩
end Go.Proofs.YtffifljfbeaodaaDoor
