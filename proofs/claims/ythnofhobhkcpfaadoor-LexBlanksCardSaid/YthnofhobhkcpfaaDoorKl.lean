/- The reference's lexer: Join, Same. -/
import Derived.Test.YthnofhobhkcpfaaDoorKk
import Derived.Test.YthnofhobhkcpfaaDoorKg
namespace Go.Proofs.YthnofhobhkcpfaaDoor
open Go.RowKit Go.Shelf

theorem fields_eq {P : Program} {t : TypeId} {fs : Array Field} (h : P.underlying t = some (.struct fs)) : P.fieldsOf t = fs := by unfold Program.fieldsOf; rw [h]

/-! ### tokens told apart -/
def tokEq (x y : Tok) : Bool := (x.k == y.k) && ((x.t.toList == y.t.toList) && (x.p == y.p))
theorem tokEq_iff {x y : Tok} : tokEq x y = true ↔ x = y := by
  unfold tokEq
  simp only [Bool.and_eq_true, beq_iff_eq]
  constructor
  · rintro ⟨h1, h2, h3⟩
    obtain ⟨a, b, c⟩ := x
    obtain ⟨a', b', c'⟩ := y
    simp only at h1 h2 h3
    subst h1 h3
    rw [Lib.toList_data, Lib.toList_data] at h2
    have : b = b' := by
      obtain ⟨⟨b⟩⟩ := b
      obtain ⟨⟨b'⟩⟩ := b'
      simp at h2; rw [h2]
    rw [this]
  · rintro rfl; exact ⟨rfl, rfl, rfl⟩

theorem tokPart0 (z u v : Value) (w : World) : (part 3 #[z, u, v] 0).run Tryd.prog w = .ok z w := by kernel_rfl
theorem tokPart1 (z u v : Value) (w : World) : (part 9 #[z, u, v] 1).run Tryd.prog w = .ok u w := by kernel_rfl
theorem tokPart2 (z u v : Value) (w : World) : (part 3 #[z, u, v] 2).run Tryd.prog w = .ok v w := by kernel_rfl
theorem tokStood : Tryd.prog.stoodInHeld 33 = false := by kernel_rfl

theorem eqTok (x y : Tok) (w : World) : (Op.equalIn 10000 33 (.agg #[.int .i64 x.k, .string x.t, .int .i64 x.p]) (.agg #[.int .i64 y.k, .string y.t, .int .i64 y.p])).run Tryd.prog w = .ok (tokEq x y) w := by
  have hu := Tryd.underlying33
  have hf := fields_eq Tryd.underlying33
  have hi : ∀ (d : Nat) (p q : Int), (Op.equalIn (d + 1) 3 (.int .i64 p) (.int .i64 q)).run Tryd.prog w = .ok (p == q) w := fun d p q => run_equalIn_int w d _ _ _ p q Tryd.underlying3
  have hs : ∀ (d : Nat) (p q : ByteArray), (Op.equalIn (d + 1) 9 (.string p) (.string q)).run Tryd.prog w = .ok (p.toList == q.toList) w := fun d p q => run_equalIn_string w d _ p q Tryd.underlying9
  rw [run_equalIn_agg w 9999 _ _ _ (by rw [hf]; exact hu) tokStood, hf]
  simp only [Op.eqFields]
  unfold tokEq
  have e : ∀ a b : Nat, ((a : Int) == (b : Int)) = (a == b) := fun a b => by rw [Bool.eq_iff_iff]; simp; omega
  cases h1 : (x.k == y.k) <;> cases h2 : (x.t.toList == y.t.toList) <;> cases h3 : (x.p == y.p) <;> simp [hi, hs, e, tokPart0, tokPart1, tokPart2, h1, h2, h3, Result.andThen]

theorem take_eq_snoc {α : Type} (a b : List α) (k : Nat) (x y : α) (ha : a[k]? = some x) (hb : b[k]? = some y) (h : a.take k = b.take k) : (a.take (k + 1) = b.take (k + 1)) ↔ x = y := by
  rw [List.take_add_one, List.take_add_one, ha, hb, h]
  constructor
  · intro q; have := List.append_cancel_left q; simpa using this
  · intro q; rw [q]

/-- Are two lists the same? -/
def toksEq : List Tok → List Tok → Bool
  | [], [] => true
  | x :: a, y :: b => tokEq x y && toksEq a b
  | _, _ => false
theorem toksEq_iff : ∀ {a b : List Tok}, toksEq a b = true ↔ a = b
  | [], [] => by simp [toksEq]
  | [], _ :: _ => by simp [toksEq]
  | _ :: _, [] => by simp [toksEq]
  | x :: a, y :: b => by simp [toksEq, tokEq_iff, toksEq_iff]

set_option maxHeartbeats 1000000 in
theorem rSame_any (w : World) (va vb : Value) (a b : List Tok) (ha : Sl tokC 3 w va a) (hb : Sl tokC 3 w vb b) (hla : a.length ≤ 1000000) :
    Calls Tryd.prog 12 #[va, vb] w fun e w' => e = .returned (.bool (toksEq a b)) ∧ Below w.heap.size w w' := by
  obtain ⟨pa, ca, rfl, hcl, hca⟩ := ha.form
  obtain ⟨pb, cb, rfl, hcl2, hcb⟩ := hb.form
  clear ha hb
  by_cases hl : a.length = b.length
  · obtain ⟨n, hn⟩ : ∃ n, n = a.length := ⟨_, rfl⟩
    have hn2 : n = b.length := by omega
    rw [← hn] at hcl hla
    rw [← hn2] at hcl2
    rw [← hn, ← hn2]
    have HA : Hid (n = a.length) := hn
    have HB : Hid (n = b.length) := hn2
    clear hn hn2 hl
    go_enter Tryd.func12, Tryd.ntmps12
    go_wp2_with fail
    go_loopw [5] (fun i wr => ∃ k : Nat, k ≤ n ∧ i = .int .i64 k ∧ Below w.heap.size w wr ∧ a.take k = b.take k) (fun i _ => n - (intOf i).toNat)
    case atStart => exact ⟨0, Nat.zero_le _, rfl, Below.refl _ _, by simp⟩
    case round =>
      obtain ⟨k, hk, rfl, hB, heq⟩ := hrel
      by_cases hlt : k < n
      · obtain ⟨x, hx⟩ : ∃ x, a[k]? = some x := ⟨_, List.getElem?_eq_getElem (by have := HA.out; omega)⟩
        obtain ⟨y, hy⟩ : ∃ y, b[k]? = some y := ⟨_, List.getElem?_eq_getElem (by have := HB.out; omega)⟩
        obtain ⟨b1, o1, h1, k1⟩ := hca wr hB k x hx
        obtain ⟨b2, o2, h2, k2⟩ := hcb wr hB k y hy
        subst h1 h2
        have HE : Hid ((a.take (k + 1) = b.take (k + 1)) ↔ x = y) := take_eq_snoc a b k x y hx hy heq
        have HNE : Hid (a = b → a.take (k + 1) = b.take (k + 1)) := fun q => by show _ = _; rw [q]
        have hk0 : (0 : Int) ≤ (k : Int) := by omega
        have hk1 : (k : Int) < (n : Int) := by omega
        have c0 : wr.cell? ⟨b1, o1 + k * 3, none⟩ = some (.int .i64 x.k) := k1 0 _ rfl
        have c1 : wr.cell? ⟨b1, o1 + k * 3 + 1, none⟩ = some (.string x.t) := k1 1 _ rfl
        have c2 : wr.cell? ⟨b1, o1 + k * 3 + 2, none⟩ = some (.int .i64 x.p) := k1 2 _ rfl
        have d0 : wr.cell? ⟨b2, o2 + k * 3, none⟩ = some (.int .i64 y.k) := k2 0 _ rfl
        have d1 : wr.cell? ⟨b2, o2 + k * 3 + 1, none⟩ = some (.string y.t) := k2 1 _ rfl
        have d2 : wr.cell? ⟨b2, o2 + k * 3 + 2, none⟩ = some (.int .i64 y.p) := k2 2 _ rfl
        have hq : ∀ W, (Op.equalIn 10000 33 (.agg #[.int .i64 x.k, .string x.t, .int .i64 x.p]) (.agg #[.int .i64 y.k, .string y.t, .int .i64 y.p])).run Tryd.prog W = .ok (tokEq x y) W := fun W => eqTok x y W
        clear hx hy heq hca hcb k1 k2
        obtain ⟨q, hqq⟩ : ∃ q, q = tokEq x y := ⟨_, rfl⟩
        rw [← hqq] at hq
        have HQ : Hid (tokEq x y = q) := hqq.symm
        clear hqq
        cases q
        · go_wp2_with fail
          go_quiet (fail)
          go_wp2_with fail
          go_ret
          refine ⟨ret_bool ?_, below_drawn hB _⟩
          symm
          rw [← Bool.not_eq_true, toksEq_iff]
          intro h
          have := tokEq_iff.2 (HE.out.1 (HNE.out h))
          rw [HQ.out] at this; cases this
        · go_wp2_with fail
          go_quiet (fail)
          go_wp2_with fail
          go_roundw
          case rel => exact ⟨k + 1, by omega, by go_num, below_drawn hB _, HE.out.2 (tokEq_iff.1 HQ.out)⟩
          case measure => simp [intOf]; omega
      · have hke : k = n := by omega
        subst hke
        have HF : Hid (toksEq a b = true) := by
          show _ = true
          rw [toksEq_iff]
          have h1 := HA.out; have h2 := HB.out
          rwa [List.take_of_length_le (by omega), List.take_of_length_le (by omega)] at heq
        clear heq hca hcb
        go_wp2_with fail
        go_ret
        exact ⟨ret_bool HF.out.symm, hB⟩
  · have hne : ((a.length : Int) != (b.length : Int)) = true := by simp; omega
    have HF : Hid (toksEq a b = false) := by
      show _ = false
      rw [← Bool.not_eq_true, toksEq_iff]; rintro rfl; exact hl rfl
    clear hca hcb
    go_enter Tryd.func12, Tryd.ntmps12
    go_wp2_with fail
    go_ret
    exact ⟨ret_bool HF.out.symm, Below.refl _ _⟩

theorem concat_list (a b : ByteArray) : (a ++ b).data.toList = a.data.toList ++ b.data.toList := by simp

set_option maxHeartbeats 1000000 in
theorem rJoin_any (w : World) (v : Value) (l : List Tok) (hv : Sl tokC 3 w v l) (hl : Lx.room (texts l) ≤ 1000000) :
    Calls Tryd.prog 18 #[v] w fun e w' => ∃ s : ByteArray, e = .returned (.string s) ∧ s.data.toList = Lx.join (texts l) ∧ w' = w := by
  obtain ⟨a, c, rfl, hlc, hcell⟩ := hv.form
  obtain ⟨n, hn⟩ : ∃ n, n = l.length := ⟨_, rfl⟩
  have hn2 : n ≤ 1000000 := by
    have : ∀ m : List Lx.Bs, m.length ≤ Lx.room m := by
      intro m; induction m with
      | nil => simp [Lx.room]
      | cons a m ih => simp only [Lx.room, List.map_cons, List.sum_cons, List.length_cons] at ih ⊢; omega
    have h3 := this (texts l)
    have h4 : (texts l).length = l.length := by simp [texts]
    omega
  rw [← hn] at hlc ⊢
  have HN : Hid (n = l.length) := hn
  clear hn hv
  go_enter Tryd.func18, Tryd.ntmps18
  go_wp2_with fail
  go_loopw [3, 4] (fun s i wr => ∃ (k : Nat) (q : ByteArray), k ≤ n ∧ i = .int .i64 k ∧ s = .string q ∧ q.data.toList = Lx.join ((texts l).take k) ∧ wr = w) (fun _ i _ => n - (intOf i).toNat)
  case atStart => exact ⟨0, ⟨#[]⟩, Nat.zero_le _, rfl, rfl, rfl, rfl⟩
  case round =>
    obtain ⟨k, q, hk, rfl, rfl, hq, hW⟩ := hrel
    subst hW
    by_cases hlt : k < n
    · obtain ⟨x, hx⟩ : ∃ x, l[k]? = some x := ⟨_, List.getElem?_eq_getElem (by have := HN.out; omega)⟩
      obtain ⟨b, o, rfl, hc⟩ := hcell wr (Below.refl _ _) k x hx
      have c1 : wr.cell? ⟨b, o + k * 3 + 1, none⟩ = some (.string x.t) := hc 1 _ rfl
      have hkn : (k : Int) < (n : Int) := by omega
      obtain ⟨xt, hxt⟩ : ∃ q, q = x.t := ⟨_, rfl⟩
      rw [← hxt] at c1
      have hroom : (Lx.join ((texts l).take k)).length + xt.size + 1 ≤ 1000000 := by
        have h1 := Lx.join_length ((texts l).take k)
        have h2 := Lx.sum_take (fun t => t.length + 1) (texts l) k xt.data.toList (by simp [texts, hx, hxt])
        have h3 : ((texts l).map (fun t => t.length + 1)).sum = Lx.room (texts l) := rfl
        have h4 := size_toList xt
        omega
      rw [← hq, size_toList] at hroom
      have HS : Hid (Lx.join ((texts l).take (k + 1)) = if k = 0 then xt.data.toList else Lx.join ((texts l).take k) ++ 32 :: xt.data.toList) := by
        show _ = _
        have e : (texts l).take (k + 1) = (texts l).take k ++ [xt.data.toList] := by
          rw [List.take_add_one]; simp [texts, hx, hxt]
        rw [e, Lx.join_snoc]
        have : (texts l).take k = [] ↔ k = 0 := by
          have hl2 : (texts l).length = n := by have := HN.out; simp [texts]; omega
          constructor
          · intro h
            have := congrArg List.length h
            rw [List.length_take, List.length_nil] at this; omega
          · rintro rfl; rfl
        simp only [this]
      have HQ : Hid (q.data.toList = Lx.join ((texts l).take k)) := hq
      clear hx hxt hc hcell hq
      by_cases hk0 : k = 0
      · rw [if_pos hk0] at HS
        have hq0 : q.data.toList = [] := by rw [HQ.out, hk0]; rfl
        have HQ0 : Hid (q.data.toList = []) := hq0
        have hk1 : ¬ 0 < k := by omega
        clear hk0 hq0
        go_wp2_with fail
        go_roundw
        case rel => exact ⟨k + 1, _, by omega, by go_num, rfl, by rw [concat_list, HQ0.out, HS.out]; rfl, by trivial⟩
        case measure => simp [intOf]; omega
      · have hk0' : 0 < k := by omega
        rw [if_neg hk0] at HS
        clear hk0
        go_wp2_with fail
        go_roundw
        case rel => exact ⟨k + 1, _, by omega, by go_num, rfl, by rw [concat_list, concat_list, HQ.out, HS.out, List.append_assoc]; rfl, by trivial⟩
        case measure => simp [intOf]; omega
    · have hke : k = n := by omega
      subst hke
      have HQ : Hid (q.data.toList = Lx.join (texts l)) := by
        show _ = _
        rw [hq, List.take_of_length_le (by have := HN.out; simp [texts]; omega)]
      clear hq hcell
      go_wp2_with fail
      go_ret
      exact ⟨q, rfl, HQ.out, rfl⟩
end Go.Proofs.YthnofhobhkcpfaaDoor
