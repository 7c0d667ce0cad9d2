/- How deep nodes are: the walk. May an expression be: the walk. The reference's lexer: words, signs, letters, names. The reference's lexer: names, numbers, signs, words. -/
import Derived.Laws.MakeOwn
import Derived.Laws.OwnMore
import Derived.Deep.QuietTactic
import Derived.Test.YtjnpkdpljmkpiaaGreatDoorJ1
import Derived.Test.YtjnpkdpljmkpiaaGreatDoorJ3
namespace Go.Proofs.YtjnpkdpljmkpiaaGreatDoor
open Go.RowKit Go.Shelf Tx
def RowL {α : Type} (f : α → Value) (T base : Nat) (w : World) (g n : Nat) (L : List α) : Prop := w.ownsRow base T 1 (.slice (some ⟨g, 0, none⟩) n n) n (L.map f)
section
variable {α : Type} {f : α → Value} {T base g n : Nat} {w w' : World} {L : List α}
theorem RowL.len (h : RowL f T base w g n L) : L.length = n := by
  have := h.1; simpa using this
theorem RowL.cell (h : RowL f T base w g n L) {j : Nat} {x : α} (hx : L[j]? = some x) : w.cell? ⟨g, j, none⟩ = some (f x) := by
  have hj := (List.getElem?_eq_some_iff.1 hx).1
  have hn := h.len
  have := World.ownsRow.cellAt h j (by omega)
  rw [this]; simp [hx]
theorem RowL.free (h : RowL f T base w g n L) (j : Nat) : w.frozen? ⟨g, j, none⟩ = false := World.ownsRow.frozenAt h j
theorem RowL.set (h : RowL f T base w g n L) (j : Nat) (y : α) : RowL f T base (w.setCell ⟨g, j, none⟩ (f y)) g n (L.set j y) := by
  have := (World.ownsRow.stored h j (f y)).1
  unfold RowL; rw [List.map_set]; exact this
theorem RowL.below (h : RowL f T base w g n L) (hb : Below w.heap.size w w') : RowL f T base w' g n L := below_row hb h
theorem RowL.drawn (h : RowL f T base w g n L) (k : Nat) : RowL f T base (w.drewN k) g n L := h
theorem RowL.lt (h : RowL f T base w g n L) : base ≤ g ∧ g < w.heap.size := by
  have := World.ownsRow.lt h g rfl; exact this
theorem RowL.sl {enc : α → List Value} (he : ∀ x, enc x = [f x]) (h : RowL f T base w g n L) : Sl enc 1 w (.slice (some ⟨g, 0, none⟩) n n) L := by
  have hn := h.len
  refine Or.inr ⟨g, 0, n, by rw [hn], by omega, h.lt.2, fun i x hi j u hu => ?_⟩
  rw [he] at hu
  cases j with
  | succ j => simp at hu
  | zero =>
    simp at hu; subst hu
    have := h.cell hi
    simpa using this
end
theorem below_set {base : Nat} {a w : World} {g j : Nat} {v : Value} (h : Below base a w) (hg : base ≤ g) : Below base a (w.setCell ⟨g, j, none⟩ v) := h.setCell hg _
theorem infoI : (Tryz.prog.info? 3).map (fun i => (i.zero, i.size, i.bytes)) = some (some (.int .i64 0), 1, 8) := by kernel_rfl
theorem infoB : (Tryz.prog.info? 4).map (fun i => (i.zero, i.size, i.bytes)) = some (some (.bool false), 1, 1) := by kernel_rfl
abbrev vI (n : Int) : Value := .int .i64 n
abbrev vB (b : Bool) : Value := .bool b
structure DepRow (d : List Nat) (i : Nat) (m : Nat) (L : List Int) : Prop where
  old : ∀ j x, j < i → d[j]? = some x → L[j]? = some (x : Int)
  now : i < L.length → L[i]? = some (m : Int)
  new : ∀ j, i < j → j < L.length → L[j]? = some 0
theorem DepRow.start (d : List Nat) (n : Nat) : DepRow d 0 0 (List.replicate n 0) :=
  ⟨fun j x h => by omega, fun h => by simp at h; rw [List.getElem?_replicate, if_pos h]; rfl, fun j _ h => by simp at h; rw [List.getElem?_replicate, if_pos h]⟩
theorem DepRow.raise {d : List Nat} {i m : Nat} {L : List Int} (h : DepRow d i m L) (m' : Nat) : DepRow d i m' (L.set i (m' : Int)) := by
  refine ⟨fun j x hj hx => ?_, fun hi => ?_, fun j hj hl => ?_⟩
  · rw [List.getElem?_set, if_neg (by omega)]; exact h.old j x hj hx
  · simp at hi; rw [List.getElem?_set, if_pos rfl, if_pos hi]
  · simp at hl; rw [List.getElem?_set, if_neg (by omega)]; exact h.new j hj hl
theorem DepRow.next {d : List Nat} {i m : Nat} {L : List Int} (h : DepRow d i m L) (hi : i < L.length) (hd : d[i]? = some m) : DepRow d (i + 1) 0 L := by
  refine ⟨fun j x hj hx => ?_, fun hl => h.new _ (by omega) hl, fun j hj hl => h.new j (by omega) hl⟩
  by_cases e : j = i
  · subst e; rw [hd] at hx; cases hx; exact h.now hi
  · exact h.old j x (by omega) hx
theorem DepRow.done {d : List Nat} {n m : Nat} {L : List Int} (h : DepRow d n m L) (hd : d.length = n) (hL : L.length = n) : L = d.map Int.ofNat := by
  apply List.ext_getElem?
  intro j
  rw [List.getElem?_map]
  rcases Nat.lt_or_ge j n with hj | hj
  · rw [List.getElem?_eq_getElem (l := d) (by omega)]
    exact h.old j _ hj (List.getElem?_eq_getElem (by omega))
  · rw [List.getElem?_eq_none (by omega), List.getElem?_eq_none (by omega)]; rfl
def kidMax (d : List Nat) (i : Nat) (l : List Int) : Nat := l.foldl (fun (m : Nat) (k : Int) => if 0 ≤ k ∧ k < (i : Int) then max m (d.getD k.toNat 0) else m) 0
theorem deps_at {e : List Nd} {i : Nat} {x : Nd} (h : e[i]? = some x) : (deps e)[i]? = some (kidMax (deps e) i (kids x) + 1) := by
  obtain ⟨he, hl⟩ := split_get h
  have e1 : e = (e.take i ++ [x]) ++ e.drop (i + 1) := by rw [List.append_assoc]; exact he
  have h1 : (deps e)[i]? = (deps (e.take i ++ [x]))[i]? := by
    conv => lhs; rw [e1]
    exact deps_app _ _ i (by simp [hl])
  rw [h1, deps_snoc, List.getElem?_append_right (by rw [deps_len, hl]; exact Nat.le_refl _), deps_len, hl]
  simp only [Nat.sub_self, List.getElem?_cons_zero, Option.some.injEq]
  unfold depOf kidMax
  rw [deps_len, hl]
  congr 1
  apply foldl_same
  intro m k _
  by_cases hk : 0 ≤ k ∧ k < (i : Int)
  · rw [if_pos hk, if_pos hk]
    have : (deps (e.take i)).getD k.toNat 0 = (deps e).getD k.toNat 0 := by
      rw [List.getD_eq_getElem?_getD, List.getD_eq_getElem?_getD]
      conv => rhs; rw [he]
      rw [deps_app (e.take i) _ k.toNat (by omega)]
    rw [this]
  · rw [if_neg hk, if_neg hk]
theorem kidMax_snoc (d : List Nat) (i : Nat) (l : List Int) (k : Int) : kidMax d i (l ++ [k]) = if 0 ≤ k ∧ k < (i : Int) then max (kidMax d i l) (d.getD k.toNat 0) else kidMax d i l := by
  unfold kidMax; rw [List.foldl_append]; rfl
theorem take_at {α : Type} {l : List α} {k : Nat} {x : α} (h : l[k]? = some x) : l.take (k + 1) = l.take k ++ [x] := by rw [List.take_add_one, h]; rfl
theorem deps_le (e : List Nd) : ∀ j x, (deps e)[j]? = some x → x ≤ j + 1 := by
  intro j
  induction j using Nat.strongRecOn with
  | _ j ih =>
    intro x hx
    have hj := (List.getElem?_eq_some_iff.1 hx).1
    rw [deps_len] at hj
    rw [deps_at (List.getElem?_eq_getElem hj)] at hx
    simp only [Option.some.injEq] at hx
    have : ∀ l : List Int, kidMax (deps e) j l ≤ j := by
      intro l
      induction l using snoc_ind with
      | h0 => exact Nat.zero_le _
      | h1 l k ihl =>
        rw [kidMax_snoc]
        split
        · rename_i hk
          have h2 := ih k.toNat (by omega)
          rw [List.getD_eq_getElem?_getD]
          cases hq : (deps e)[k.toNat]? with
          | none => simp; exact ihl
          | some y => have := h2 y hq; simp; omega
        · exact ihl
    have := this (kids e[j])
    omega
set_option maxRecDepth 100000 in
set_option maxHeartbeats 4000000 in
theorem depths_any (e : List Nd) (v : Value) (w : World) (he : e.length ≤ 5000) (hv : IsE w v e) :
    Calls Tryz.prog 108 #[v] w fun r w' => ∃ g, r = .returned (.slice (some ⟨g, 0, none⟩) e.length e.length) ∧ RowL vI 3 w.heap.size w' g e.length ((deps e).map Int.ofNat) ∧ Below w.heap.size w w' := by
  obtain ⟨a, c, rfl, hc, hx⟩ := hv.form
  obtain ⟨i0, hi, hz0, hz1, hz2⟩ := info_parts infoI
  obtain ⟨n, hn⟩ : ∃ n, n = e.length := ⟨_, rfl⟩
  rw [← hn] at hc he ⊢
  have HN : Hid (n = e.length) := hn
  have HX : Hid (∀ W, Below w.heap.size w W → ∀ i x, e[i]? = some x → ∃ b o, a = some ⟨b, o, none⟩ ∧ ∀ j u, (ndL x)[j]? = some u → W.cell? ⟨b, o + i * 6 + j, none⟩ = some u) := hx
  clear hn hx hv
  go_enter Tryz.func108, Tryz.ntmps108
  go_wp2_with (at_make; refine wpList_make_full _ rfl _ _ 102 rfl w.heap.size 3 i0 (.int .i64 0) 1 Tryz.underlying102 hi hz0 hz1 _ _ _ _ n rfl rfl rfl rfl ?_ ?_ ?_ ?_; rotate_right; intro w2 hown2 hgrow2)
  case refine_1 => rw [hz2]; omega
  case refine_2 => unfold maxLen; omega
  case refine_3 => exact Nat.le_refl _
  have hB2 : Below w.heap.size w w2 := (Below.refl _ _).grown hgrow2 (Nat.le_refl _) (by simp)
  have hR2 : RowL vI 3 w.heap.size w2 w.heap.size n (List.replicate n 0) := by
    unfold RowL
    have := hown2
    simp only [Value.cells, Nat.mul_one, toList_madeCells_one] at this
    simpa using this
  clear hown2 hgrow2 hi hz0 hz1 hz2
  obtain ⟨bx, hbx⟩ : ∃ bx, bx = w.heap.size := ⟨_, rfl⟩
  rw [← hbx] at hB2 hR2 ⊢
  have HBX : Hid (bx = w.heap.size) := hbx
  clear hbx
  go_loopw [13] (fun i wr => ∃ (k : Nat) (L : List Int), i = .int .i64 k ∧ k ≤ n ∧ RowL vI 3 bx wr bx n L ∧ DepRow (deps e) k 0 L ∧ Below bx w wr) (fun i _ => n - (intOf i).toNat)
  case atStart => exact ⟨0, _, rfl, Nat.zero_le _, hR2, DepRow.start _ _, hB2⟩
  case round =>
    obtain ⟨k, L, rfl, hk, hR, hD, hB⟩ := hrel
    clear hB2 hR2
    by_cases hlt : k < n
    · obtain ⟨x, hx⟩ : ∃ x, e[k]? = some x := ⟨_, List.getElem?_eq_getElem (by have := HN.out; omega)⟩
      obtain ⟨b, o, rfl, hcell⟩ := HX.out wr (by rw [← HBX.out]; exact hB) k x hx
      obtain ⟨c0, c1, c2, c3, c4, c5⟩ := nd_cells hcell
      have HXX := Lib.hid hx
      have hkn : (k : Int) < (n : Int) := by omega
      have hk0 : (0 : Int) ≤ (k : Int) := by omega
      clear hx hcell
      go_wp2_with fail
      refine (Kids_any x _).mono ?_
      rintro r w1 ⟨kv, rfl, hkr0, hb1⟩
      have nb := (Below.refl wr.heap.size wr).alloc (Nat.le_refl _) (.cells (ndA x) 42)
      have hb2 := below_next nb hb1
      have hR1 := hR.below hb2
      have hltb := hR.lt.2
      have hB1 : Below bx w w1 := hB.trans (hb2.mono (by omega))
      have hkr := hkr0.mono (b2 := bx + 1) (by simp; omega)
      clear hkr0 c0 c1 c2 c3 c4 c5 hR hB nb hb2 hb1
      obtain ⟨ka, kc, rfl, hkc⟩ := hkr.form
      obtain ⟨kn, hkn2⟩ : ∃ kn, kn = (kids x).length := ⟨_, rfl⟩
      have h3 := kids_len x
      rw [← hkn2] at hkr hkc h3 ⊢
      have HKN := Lib.hid hkn2
      clear hkn2
      go_wp2_with fail
      obtain ⟨wo, rfl⟩ : ∃ wo : World, wo = wr := ⟨_, rfl⟩
      go_loopw [21] (fun i wr => ∃ (t : Nat) (L : List Int), i = .int .i64 t ∧ t ≤ kn ∧ RowL vI 3 bx wr bx n L ∧ DepRow (deps e) k (kidMax (deps e) k ((kids x).take t)) L ∧ Below bx w wr ∧ RowI (bx + 1) wr (.slice ka kn kc) (kids x)) (fun i _ => kn - (intOf i).toNat)
      case atStart => exact ⟨0, L, rfl, Nat.zero_le _, hR1, hD, hB1, hkr⟩
      case round =>
        obtain ⟨t, L, rfl, ht, hR, hD, hB, hkr⟩ := hrel
        clear hR1 hB1
        by_cases hlt2 : t < kn
        · obtain ⟨y, hy⟩ : ∃ y, (kids x)[t]? = some y := ⟨_, List.getElem?_eq_getElem (by have := HKN.out; omega)⟩
          obtain ⟨g, rfl, hg1, hg2, cy, -⟩ := hkr.at hy
          have HS : Hid (kidMax (deps e) k ((kids x).take (t + 1)) = if 0 ≤ y ∧ y < (k : Int) then max (kidMax (deps e) k ((kids x).take t)) ((deps e).getD y.toNat 0) else kidMax (deps e) k ((kids x).take t)) := by
            show _ = _; rw [take_at hy, kidMax_snoc]
          have htk : (t : Int) < (kn : Int) := by omega
          have ht0 : (0 : Int) ≤ (t : Int) := by omega
          clear hy
          have HR := Lib.hid hR
          have HD := Lib.hid hD
          by_cases hyr : 0 ≤ y ∧ y < (k : Int)
          · have HS2 : Hid (kidMax (deps e) k ((kids x).take (t + 1)) = max (kidMax (deps e) k ((kids x).take t)) ((deps e).getD y.toNat 0)) := by show _ = _; rw [HS.out, if_pos hyr]
            obtain ⟨hy0, hyk⟩ := hyr
            obtain ⟨j, rfl⟩ : ∃ j : Nat, y = (j : Int) := ⟨y.toNat, by omega⟩
            have hlL := hR.len
            obtain ⟨dj, hdj⟩ : ∃ dj, (deps e)[j]? = some dj := ⟨_, List.getElem?_eq_getElem (by rw [deps_len]; have := HN.out; omega)⟩
            have HDJ : Hid ((deps e).getD (j : Int).toNat 0 = dj) := by show _ = _; rw [List.getD_eq_getElem?_getD, show (j : Int).toNat = j by omega, hdj]; rfl
            have cj := hR.cell (hD.old j dj (by omega) hdj)
            have ck := hR.cell (hD.now (by omega))
            have fk := hR.free k
            obtain ⟨m, hm⟩ : ∃ m, m = kidMax (deps e) k ((kids x).take t) := ⟨_, rfl⟩
            rw [← hm] at ck
            have HM := Lib.hid hm
            have hmax : ∀ (ts : Array TypeId) (t' : TypeId) (W : World), (Builtin.max_ ts t' #[.int .i64 (m : Int), .int .i64 (dj : Int)]).run Tryz.prog W = .ok (.int .i64 ((max m dj : Nat) : Int)) W := fun ts t' W => by
              rw [run_max_int2]; congr 2; split <;> omega
            have hjn : (j : Int) < (n : Int) := by omega
            have HKR := Lib.hid hkr
            clear hm hdj hlL hR hD hkr
            go_wp2_with fail
            go_region
            go_wp2_with fail
            go_roundw
            case rel =>
              refine ⟨t + 1, L.set k ((max m dj : Nat) : Int), by go_num, by omega, HR.out.set k _, ?_, (below_set hB (Nat.le_refl _)).drew, HKR.out.other (by omega) _ _⟩
              rw [HS2.out, ← HM.out, HDJ.out]
              exact HD.out.raise _
            case measure => simp [intOf]; omega
          · have HS2 : Hid (kidMax (deps e) k ((kids x).take (t + 1)) = kidMax (deps e) k ((kids x).take t)) := by show _ = _; rw [HS.out, if_neg hyr]
            have HKR := Lib.hid hkr
            have hor : ¬ (0 : Int) ≤ y ∨ ((0 : Int) ≤ y ∧ ¬ y < (k : Int)) := by omega
            clear hyr hR hD hkr
            rcases hor with h1 | ⟨h1, h2⟩
            all_goals
              go_wp2_with fail
              go_roundw
              case rel => exact ⟨t + 1, L, by go_num, by omega, HR.out, by rw [HS2.out]; exact HD.out, hB, HKR.out⟩
              case measure => simp [intOf]; omega
        · have hte : t = kn := by omega
          subst hte
          have hlL := hR.len
          have hfull : (kids x).take t = kids x := List.take_of_length_le (by have := HKN.out; omega)
          rw [hfull] at hD
          obtain ⟨m, hm⟩ : ∃ m, m = kidMax (deps e) k (kids x) := ⟨_, rfl⟩
          rw [← hm] at hD
          have hda := deps_at HXX.out
          rw [← hm] at hda
          have hmle := deps_le e k _ hda
          have HDA := Lib.hid hda
          have ck := hR.cell (hD.now (by omega))
          have fk := hR.free k
          have hmz : (m : Int) ≤ 5000 := by omega
          have hm0 : (0 : Int) ≤ (m : Int) := by omega
          have HR := Lib.hid hR
          have HD := Lib.hid hD
          have HL := Lib.hid hlL
          clear hm hda hR hD hkr hfull hlL
          go_wp2_with fail
          go_roundw
          case rel =>
            refine ⟨k + 1, L.set k ((m + 1 : Nat) : Int), by go_num, by omega, HR.out.set k _, ?_, below_set hB (Nat.le_refl _)⟩
            exact (HD.out.raise (m + 1)).next (by rw [List.length_set]; have := HL.out; omega) HDA.out
          case measure => simp [intOf]; omega
    · have hke : k = n := by omega
      subst hke
      have hlL := hR.len
      have HL : Hid (L = (deps e).map Int.ofNat) := hD.done (by rw [deps_len]; exact HN.out.symm) hlL
      have HR := Lib.hid hR
      clear hD hlL hR
      go_wp2_with fail
      go_ret
      exact ⟨bx, rfl, by rw [← HL.out, ← HBX.out]; exact HR.out, by rw [← HBX.out]; exact hB⟩
set_option maxHeartbeats 1000000 in
theorem Depth_any (e : List Nd) (v : Value) (w : World) (he : e.length ≤ 5000) (hv : IsE w v e) :
    Calls Tryz.prog 86 #[v] w fun r w' => r = .returned (.int .i64 (depL e)) ∧ Below w.heap.size w w' := by
  obtain ⟨a, c, rfl, hc, hx⟩ := hv.form
  obtain ⟨n, hn⟩ : ∃ n, n = e.length := ⟨_, rfl⟩
  have hd := depths_any e _ w he hv
  rw [← hn] at hc he hd ⊢
  by_cases h0 : n = 0
  · have HD : Hid (depL e = 0) := by
      show _ = _
      have : e = [] := List.eq_nil_of_length_eq_zero (by omega)
      rw [this]; rfl
    subst h0
    clear hn hx hv hd
    go_enter Tryz.func86, Tryz.ntmps86
    go_wp2_with fail
    go_ret
    exact ⟨by rw [HD.out]; rfl, Below.refl _ _⟩
  · have e0 : ((n : Int) == 0) = false := by rw [beq_eq_false_iff_ne]; omega
    have hn1 : (0 : Int) ≤ (n : Int) - 1 := by omega
    have hn2 : (1 : Int) ≤ (n : Int) := by omega
    have hl : (deps e)[n - 1]? = some (depL e) := by
      unfold depL
      have h1 : (deps e).length = n := by rw [deps_len, hn]
      rw [List.getLastD_eq_getLast?, List.getLast?_eq_getElem?, h1]
      obtain ⟨y, hy⟩ : ∃ y, (deps e)[n - 1]? = some y := ⟨_, List.getElem?_eq_getElem (by omega)⟩
      rw [hy]; rfl
    have HL : Hid (((deps e).map Int.ofNat)[n - 1]? = some (depL e : Int)) := by show _ = _; rw [List.getElem?_map, hl]; rfl
    have ht : ((n : Int) - 1).toNat = n - 1 := by omega
    clear hn hx hv hl h0
    go_enter Tryz.func86, Tryz.ntmps86
    go_wp2_with fail
    refine hd.mono ?_
    rintro r w1 ⟨g, rfl, hR, hb⟩
    have cl := hR.cell HL.out
    clear hR hd
    go_wp2_with fail
    go_ret
    exact ⟨rfl, hb⟩
end Go.Proofs.YtjnpkdpljmkpiaaGreatDoor
namespace Go.Proofs.YtjnpkdpljmkpiaaGreatDoor
open Go.RowKit Go.Shelf Tx
def boolC (b : Bool) : List Value := [.bool b]
theorem ret_bool' {a b : Bool} (h : a = b) : Ending.returned (.bool a) = .returned (.bool b) := by rw [h]
set_option maxHeartbeats 400000 in
theorem indexB_any (L : List Bool) (v : Value) (b : Bool) (w : World) (hl : L.length ≤ 1000000) (hv : Sl boolC 1 w v L) :
    Calls Tryz.prog 107 #[v, .bool b] w fun r w' => ∃ n : Int, r = .returned (.int .i64 n) ∧ (decide (0 ≤ n) = L.contains b) ∧ w' = w := by
  obtain ⟨a, c, rfl, hc, hx⟩ := hv.form
  obtain ⟨n, hn⟩ : ∃ n, n = L.length := ⟨_, rfl⟩
  rw [← hn] at hc hl ⊢
  have HN := Lib.hid hn
  clear hn hv
  go_enter Tryz.func107, Tryz.ntmps107
  go_wp2_with fail
  go_loopw [8] (fun i wr => ∃ k : Nat, i = .int .i64 k ∧ k ≤ n ∧ (L.take k).contains b = false ∧ wr = w) (fun i _ => n - (intOf i).toNat)
  case atStart => exact ⟨0, rfl, Nat.zero_le _, rfl, rfl⟩
  case round =>
    obtain ⟨k, rfl, hk, hno, hW⟩ := hrel
    subst hW
    by_cases hlt : k < n
    · obtain ⟨x, hi⟩ : ∃ x, L[k]? = some x := ⟨_, List.getElem?_eq_getElem (by have := HN.out; omega)⟩
      obtain ⟨xb, xo, rfl, g⟩ := hx wr (Below.refl _ _) k x hi
      have cx := g 0 _ rfl
      simp only [Nat.mul_one, Nat.add_zero] at cx
      have hkn : (k : Int) < (n : Int) := by omega
      have hk0 : (0 : Int) ≤ (k : Int) := by omega
      have HI := Lib.hid hi
      have HNO : Hid ((L.take (k + 1)).contains b = (x == b)) := by
        show _ = _
        rw [take_at hi, Bool.eq_iff_iff]
        have h1 : b ∉ L.take k := fun hm => by rw [← List.contains_iff_mem, hno] at hm; cases hm
        simp only [List.contains_iff_mem, List.mem_append, List.mem_singleton, beq_iff_eq]
        exact ⟨fun h => h.elim (fun q => absurd q h1) (fun q => q.symm), fun h => Or.inr h.symm⟩
      clear hx g hi hno
      by_cases he : x = b
      · subst he
        have hmem : Hid (L.contains x = true) := by
          show _ = _; rw [List.contains_iff_mem]; exact List.mem_of_getElem? HI.out
        have e1 : (x == x) = true := by cases x <;> rfl
        go_wp2_with fail
        go_ret
        exact ⟨_, rfl, by rw [hmem.out]; simp, rfl⟩
      · have e1 : (b == x) = false := by rw [beq_eq_false_iff_ne]; exact fun h => he h.symm
        have HF : Hid ((L.take (k + 1)).contains b = false) := by show _ = _; rw [HNO.out, beq_eq_false_iff_ne]; exact he
        clear he
        go_wp2_with fail
        go_roundw
        case rel => exact ⟨k + 1, by go_num, by omega, HF.out, by trivial⟩
        case measure => simp [intOf]; omega
    · have hke : k = n := by omega
      subst hke
      have HF : Hid (L.contains b = false) := by
        show _ = _
        rwa [List.take_of_length_le (by have := HN.out; omega)] at hno
      clear hno hx
      go_wp2_with fail
      go_ret
      exact ⟨-1, rfl, by rw [HF.out]; rfl, rfl⟩
theorem containsB_any (L : List Bool) (v : Value) (b : Bool) (w : World) (hl : L.length ≤ 1000000) (hv : Sl boolC 1 w v L) :
    Calls Tryz.prog 85 #[v, .bool b] w fun r w' => r = .returned (.bool (L.contains b)) ∧ w' = w := by
  have HI := indexB_any L v b w hl hv
  go_enter Tryz.func85, Tryz.ntmps85
  go_wp2_with fail
  refine HI.mono ?_
  rintro r w1 ⟨n, rfl, hn, rfl⟩
  clear HI
  have HN := Lib.hid hn
  clear hn
  go_wp2_with fail
  go_ret
  exact ⟨ret_bool HN.out, rfl⟩
def argWant (x : Nd) (t : Nat) : Bool := x.op == 27 || (x.op == 28 && x.b != -1 && t == 0)
theorem argsOk_iff (e : List Nd) (x : Nd) : argsOk e x = true ↔ ∀ (t : Nat) (k : Int), (kids x)[t]? = some k → ((e.getD k.toNat dft).op == 28) = argWant x t := by
  have key : ∀ l : List Int, (l.all (fun p => p == 28) = true ↔ ∀ (t : Nat) (p : Int), l[t]? = some p → (p == 28) = true) ∧ (l.all (fun p => p != 28) = true ↔ ∀ (t : Nat) (p : Int), l[t]? = some p → (p == 28) = false) := by
    intro l
    refine ⟨⟨fun h t p hp => List.all_eq_true.1 h p (List.mem_of_getElem? hp), fun h => List.all_eq_true.2 fun p hp => ?_⟩, ⟨fun h t p hp => ?_, fun h => List.all_eq_true.2 fun p hp => ?_⟩⟩
    · obtain ⟨t, ht⟩ := List.getElem?_of_mem hp; exact h t p ht
    · have := List.all_eq_true.1 h p (List.mem_of_getElem? hp); simpa using this
    · obtain ⟨t, ht⟩ := List.getElem?_of_mem hp; have := h t p ht; simpa using this
  have hmap : ∀ (Q : Nat → Int → Prop), (∀ (t : Nat) (p : Int), ((kids x).map fun k => (e.getD k.toNat dft).op)[t]? = some p → Q t p) ↔ ∀ (t : Nat) (k : Int), (kids x)[t]? = some k → Q t (e.getD k.toNat dft).op := by
    intro Q
    constructor
    · intro h t k hk; exact h t _ (by rw [List.getElem?_map, hk]; rfl)
    · intro h t p hp
      rw [List.getElem?_map] at hp
      obtain ⟨k, hk, rfl⟩ := Option.map_eq_some_iff.1 hp
      exact h t k hk
  unfold argsOk
  by_cases h27 : x.op = 27
  · have e1 : ∀ t, argWant x t = true := fun t => by simp [argWant, h27]
    simp only [argsB, if_pos h27, (key _).1, e1]
    exact hmap (fun _ p => (p == 28) = true)
  by_cases h28 : x.op = 28
  · by_cases hb : x.b = -1
    · have e1 : ∀ t, argWant x t = false := fun t => by simp [argWant, h27, hb]
      have hk : kids x = [x.a] := by unfold kids; rw [if_neg (by omega), if_pos h28, if_pos hb]
      simp only [argsB, if_neg h27, if_pos h28, e1]
      rw [hk]
      simp only [List.map_cons, List.map_nil, List.all_cons, List.all_nil, Bool.and_true]
      constructor
      · intro h t k hk
        cases t with
        | zero => simp at hk; subst hk; simpa using h
        | succ t => simp at hk
      · intro h; have := h 0 x.a rfl; simpa using this
    · have hk : kids x = [x.b, x.a] := by unfold kids; rw [if_neg (by omega), if_pos h28, if_neg hb]
      have e1 : argWant x 0 = true := by simp [argWant, h28, hb]
      have e2 : ∀ t, argWant x (t + 1) = false := fun t => by simp [argWant, h27]
      simp only [argsB, if_neg h27, if_pos h28]
      rw [hk]
      simp only [List.map_cons, List.map_nil, Bool.and_eq_true, bne_iff_ne]
      constructor
      · rintro ⟨h1, h2⟩ t k hk
        match t with
        | 0 => simp at hk; subst hk; rw [e1]; exact h1
        | 1 => simp at hk; subst hk; rw [e2]; simpa using h2
        | t + 2 => simp at hk
      · intro h
        have h1 := h 0 x.b rfl
        have h2 := h 1 x.a rfl
        rw [e1] at h1
        rw [e2] at h2
        exact ⟨h1, by simpa using h2⟩
  · have e1 : ∀ t, argWant x t = false := fun t => by simp [argWant, h27, h28]
    simp only [argsB, if_neg h27, if_neg h28, (key _).2, e1]
    exact hmap (fun _ p => (p == 28) = false)
structure MayLp (e : List Nd) (i : Nat) (P : List Int) (U : List Bool) : Prop where
  ok : ∀ j x, j < i → e[j]? = some x → nodeB x = true ∧ inR x j ∧ argsOk e x = true
  nodup : P.Nodup
  mark : ∀ j, j < U.length → U[j]? = some (decide ((j : Int) ∈ P))
theorem MayLp.start (e : List Nd) : MayLp e 0 [] (List.replicate e.length false) :=
  ⟨fun j x h => by omega, List.nodup_nil, fun j hj => by simp at hj; rw [List.getElem?_replicate, if_pos hj]; simp⟩
theorem MayLp.put {e : List Nd} {i : Nat} {P : List Int} {U : List Bool} (h : MayLp e i P U) {k : Nat} (hk : (k : Int) ∉ P) : MayLp e i (P ++ [(k : Int)]) (U.set k true) := by
  refine ⟨h.ok, ?_, fun j hj => ?_⟩
  · rw [List.nodup_append]
    exact ⟨h.nodup, by simp, fun a ha b hb e => by rw [List.mem_singleton.1 hb] at e; exact hk (e ▸ ha)⟩
  · rw [List.length_set] at hj
    rw [List.getElem?_set]
    by_cases e : k = j
    · subst e; rw [if_pos rfl, if_pos hj]; simp
    · rw [if_neg e, h.mark j hj]
      have : ¬ (j : Int) = (k : Int) := by omega
      simp [this]
theorem MayLp.next {e : List Nd} {i : Nat} {U : List Bool} {x : Nd} (h : MayLp e i (allK (e.take i) ++ kids x) U) (hx : e[i]? = some x) (h1 : nodeB x = true) (h2 : inR x i) (h3 : argsOk e x = true) : MayLp e (i + 1) (allK (e.take (i + 1))) U := by
  refine ⟨fun j y hj hy => ?_, ?_, ?_⟩
  · by_cases q : j = i
    · subst q; rw [hx] at hy; cases hy; exact ⟨h1, h2, h3⟩
    · exact h.ok j y (by omega) hy
  · rw [take_snoc' hx, allK_snoc]; exact h.nodup
  · rw [take_snoc' hx, allK_snoc]; exact h.mark
theorem may_no {e : List Nd} (h : MayP e → False) : mayB e = false := by
  rw [Bool.eq_false_iff]; intro q; exact h ((mayB_iff e).1 q)
theorem may_twice {e : List Nd} {i t : Nat} {x : Nd} {k : Int} (hx : e[i]? = some x) (hk : (kids x)[t]? = some k) (hm : k ∈ allK (e.take i) ++ (kids x).take t) : mayB e = false := by
  apply may_no
  intro h
  have hn := h.nodup
  obtain ⟨he, hl⟩ := split_get hx
  obtain ⟨hq, hlq⟩ := split_get hk
  rw [he, allK_app] at hn
  have e1 : allK (x :: e.drop (i + 1)) = ((kids x).take t ++ k :: (kids x).drop (t + 1)) ++ allK (e.drop (i + 1)) := by
    show (x :: e.drop (i + 1)).flatMap kids = _
    rw [List.flatMap_cons]
    congr 1
  rw [e1, List.append_assoc, ← List.append_assoc, List.nodup_append] at hn
  exact hn.2.2 k hm k (by simp) rfl
theorem MayLp.finish {e : List Nd} {U : List Bool} (h : MayLp e e.length (allK e) U) (hU : U.length = e.length) (h1 : 1 ≤ e.length) (h2 : e.length ≤ 5000) (h3 : (e.getLastD dft).op ≠ 28) :
    mayB e = (!(U.take (e.length - 1)).contains false && decide (depL e ≤ 40)) := by
  have hN : NodeP e := fun i x hx => h.ok i x (List.getElem?_eq_some_iff.1 hx).1 hx
  rw [Bool.eq_iff_iff, mayB_iff]
  simp only [Bool.and_eq_true, decide_eq_true_eq, Bool.not_eq_true']
  constructor
  · intro hM
    refine ⟨?_, hM.deep⟩
    rw [Bool.eq_false_iff, ne_eq, List.contains_iff_mem]
    intro hf
    obtain ⟨j, hj⟩ := List.getElem?_of_mem hf
    have hjl := (List.getElem?_eq_some_iff.1 hj).1
    rw [List.length_take] at hjl
    rw [List.getElem?_take, if_pos (by omega), h.mark j (by omega)] at hj
    have hc := hM.used j (by omega)
    have : (j : Int) ∈ allK e := List.count_pos_iff.1 (by omega)
    simp [this] at hj
  · rintro ⟨hf, hd⟩
    refine ⟨h1, h2, h3, hN, fun j hj => ?_, hd⟩
    have hm : (j : Int) ∈ allK e := by
      rcases Classical.em ((j : Int) ∈ allK e) with q | q
      · exact q
      · exfalso
        have h4 := h.mark j (by omega)
        rw [decide_eq_false q] at h4
        have : (U.take (e.length - 1)).contains false = true := by
          rw [List.contains_iff_mem]
          exact List.mem_of_getElem? (i := j) (by rw [List.getElem?_take, if_pos (by omega)]; exact h4)
        rw [hf] at this; cases this
    have h5 := List.nodup_iff_count.1 h.nodup (j : Int)
    have h6 := List.count_pos_iff.2 hm
    omega
end Go.Proofs.YtjnpkdpljmkpiaaGreatDoor
namespace Go.Proofs.YtjnpkdpljmkpiaaGreatDoor
open Go.RowKit Go.Shelf
def wordC (l : Lx.Bs) : Value := .string ⟨l.toArray⟩
theorem Words_any (w : World) : Calls Tryz.prog 142 #[] w fun e w' => ∃ b c, e = .returned (.slice (some ⟨b, 0, none⟩) 35 c) ∧ Below w.heap.size w w' ∧ ∀ j x, Lx.words[j]? = some x → w'.cell? ⟨b, j, none⟩ = some (wordC x) := by
  have hc : ∀ j x, Lx.words[j]? = some x → (w.alloc (.cells (Lx.words.map wordC).toArray 9)).cell? ⟨w.heap.size, j, none⟩ = some (wordC x) := by
    intro j x h
    rw [cell_of_row _ _ j _ _ _ (heap_alloc_new w _)]
    simp [h]
  go_enter Tryz.func142, Tryz.ntmps142
  go_wp2_with fail
  go_ret
  exact ⟨_, _, rfl, (Below.refl _ _).alloc (Nat.le_refl _) _, hc⟩
theorem Signs_any (w : World) : Calls Tryz.prog 132 #[] w fun e w' => ∃ b c, e = .returned (.slice (some ⟨b, 0, none⟩) 16 c) ∧ Below w.heap.size w w' ∧ ∀ j x, Lx.signs[j]? = some x → w'.cell? ⟨b, j, none⟩ = some (wordC x) := by
  have hc : ∀ j x, Lx.signs[j]? = some x → (w.alloc (.cells (Lx.signs.map wordC).toArray 9)).cell? ⟨w.heap.size, j, none⟩ = some (wordC x) := by
    intro j x h
    rw [cell_of_row _ _ j _ _ _ (heap_alloc_new w _)]
    simp [h]
  go_enter Tryz.func132, Tryz.ntmps132
  go_wp2_with fail
  go_ret
  exact ⟨_, _, rfl, (Below.refl _ _).alloc (Nat.le_refl _) _, hc⟩
theorem contains_take (l : List Lx.Bs) (k : Nat) (x s : Lx.Bs) (h : l[k]? = some x) : (l.take (k + 1)).contains s = ((l.take k).contains s || x == s) := by
  rw [List.take_add_one, h]
  simp only [Option.toList_some]
  rw [Bool.eq_iff_iff]
  simp only [List.contains_iff_mem, List.mem_append, List.mem_singleton, Bool.or_eq_true, beq_iff_eq]
  constructor
  · rintro (h | h)
    · exact Or.inl h
    · exact Or.inr h.symm
  · rintro (h | h)
    · exact Or.inl h
    · exact Or.inr h.symm
set_option maxHeartbeats 400000 in
theorem rIsWord_any (s : ByteArray) (w : World) :
    Calls Tryz.prog 130 #[.string s] w fun e w' => e = .returned (.bool (Lx.isWord s.data.toList)) ∧ Below w.heap.size w w' := by
  go_enter Tryz.func130, Tryz.ntmps130
  go_wp2_with fail
  refine (Words_any w).mono ?_
  rintro e w1 ⟨b, c, rfl, hb1, hc1⟩
  go_wp2_with fail
  go_loopw [4] (fun i wr => ∃ k : Nat, k ≤ 35 ∧ i = .int .i64 k ∧ (Lx.words.take k).contains s.data.toList = false ∧ wr = w1) (fun i _ => 35 - (intOf i).toNat)
  case atStart => exact ⟨0, Nat.zero_le _, rfl, rfl, rfl⟩
  case round =>
    obtain ⟨k, hk, rfl, hno, hB⟩ := hrel
    subst hB
    by_cases hlt : k < 35
    · obtain ⟨x, hx⟩ : ∃ x, Lx.words[k]? = some x := ⟨_, List.getElem?_eq_getElem hlt⟩
      have hc := hc1 k x hx
      unfold wordC at hc
      obtain ⟨y, hy⟩ : ∃ y : ByteArray, y = ⟨x.toArray⟩ := ⟨_, rfl⟩
      rw [← hy] at hc
      have hyl : y.data.toList = x := by rw [hy]
      have HT := contains_take Lx.words k x s.data.toList hx
      rw [hno, Bool.false_or] at HT
      have HW : Hid (x ∈ Lx.words) := List.mem_of_getElem? hx
      have hk2 : (k : Int) < 35 := by omega
      by_cases heq : y.toList = s.toList
      · have HF : Hid (Lx.isWord s.data.toList = true) := by
          show _ = _
          unfold Lx.isWord
          rw [List.contains_iff_mem, ← Lib.toList_data, ← heq, Lib.toList_data, hyl]; exact HW.out
        clear hc1 hx hy hyl HT hno
        go_wp2_with fail
        go_ret
        exact ⟨ret_bool HF.out.symm, hb1⟩
      · have HF : Hid ((Lx.words.take (k + 1)).contains s.data.toList = false) := by
          show _ = _
          rw [HT, beq_eq_false_iff_ne, ← hyl, ← Lib.toList_data, ← Lib.toList_data]; exact heq
        have hne : (y.toList == s.toList) = false := by simp [heq]
        clear hc1 hx hy hyl HT hno
        go_wp2_with fail
        go_roundw
        case rel => exact ⟨k + 1, by omega, by go_num, HF.out, by trivial⟩
        case measure => simp [intOf]; omega
    · have hke : k = 35 := by omega
      subst hke
      have HF : Hid (Lx.isWord s.data.toList = false) := hno
      clear hno hc1
      go_wp2_with fail
      go_ret
      exact ⟨ret_bool HF.out.symm, hb1⟩
theorem rdigit_any (c : UInt8) (w : World) :
    Calls Tryz.prog 115 #[.int .u8 c.toNat] w fun e w' => e = .returned (.bool (Lx.isDig c)) ∧ w' = w := by
  have h := digN_byte c
  unfold digN at h
  go_enter Tryz.func115, Tryz.ntmps115
  go_wp2_with fail
  all_goals
    go_ret
    exact ⟨ret_bool (by rw [← digN_byte, Bool.eq_iff_iff]; simp [digN]; omega), rfl⟩
theorem rletter_any (c : UInt8) (w : World) :
    Calls Tryz.prog 117 #[.int .u8 c.toNat] w fun e w' => e = .returned (.bool (Lx.isLet c)) ∧ w' = w := by
  by_cases h1 : (97 : Int) ≤ (c.toNat : Int)
  · by_cases h2 : (c.toNat : Int) ≤ 122
    · go_enter Tryz.func117, Tryz.ntmps117
      go_wp2_with fail
      all_goals
        go_ret
        exact ⟨ret_bool (by rw [← letN_byte, Bool.eq_iff_iff]; simp [letN]; omega), rfl⟩
    · go_enter Tryz.func117, Tryz.ntmps117
      go_wp2_with fail
      all_goals
        go_ret
        exact ⟨ret_bool (by rw [← letN_byte, Bool.eq_iff_iff]; simp [letN]; omega), rfl⟩
  · go_enter Tryz.func117, Tryz.ntmps117
    go_wp2_with fail
    all_goals
      go_ret
      exact ⟨ret_bool (by rw [← letN_byte, Bool.eq_iff_iff]; simp [letN]; omega), rfl⟩
end Go.Proofs.YtjnpkdpljmkpiaaGreatDoor
namespace Go.Proofs.YtjnpkdpljmkpiaaGreatDoor
open Go.RowKit Go.Shelf
namespace Lx
theorem let_not_dig {c : UInt8} (h : isLet c = true) : isDig c = false := by
  simp only [isLet, isDig, Bool.or_eq_true, Bool.and_eq_true, decide_eq_true_eq, beq_iff_eq, UInt8.le_iff_toNat_le] at h ⊢
  rw [Bool.eq_false_iff]
  simp only [ne_eq, Bool.and_eq_true, decide_eq_true_eq]
  rcases h with h | rfl
  · have h2 : (97 : UInt8).toNat = 97 := rfl
    have h3 : (57 : UInt8).toNat = 57 := rfl
    omega
  · decide
theorem name_ref {t : Bs} (h1 : t ≠ []) (h2 : t.length ≤ 40) (h3 : isLet (t.headD 0) = true) (h4 : isWord t = false) : isName t = t.all isPt := by
  unfold isName
  have e1 : t.isEmpty = false := by cases t with | nil => exact absurd rfl h1 | cons _ _ => rfl
  simp only [e1, decide_eq_true h2, let_not_dig h3, h4, Bool.not_false, Bool.true_and, Bool.and_true]
theorem name_ref_no {t : Bs} (h1 : t ≠ []) (h3 : isLet (t.headD 0) = false) : isName t = false := by
  cases t with
  | nil => exact absurd rfl h1
  | cons c r =>
    simp only [List.headD_cons] at h3
    unfold isName
    cases hd : isDig c <;> simp [isPt, h3, hd]
theorem all_take {p : UInt8 → Bool} (l : Bs) (k : Nat) (c : UInt8) (h : l[k]? = some c) : (l.take (k + 1)).all p = ((l.take k).all p && p c) := by
  rw [List.take_add_one, h]; simp [List.all_append]
theorem all_no {p : UInt8 → Bool} (l : Bs) (k : Nat) (c : UInt8) (h : l[k]? = some c) (hp : p c = false) : l.all p = false := by
  rw [Bool.eq_false_iff]; intro q
  have := List.all_eq_true.1 q c (List.mem_of_getElem? h)
  rw [hp] at this; cases this
theorem val_snoc (l : Bs) (c : UInt8) : val (l ++ [c]) = 10 * val l + (c.toNat - 48) := by simp [val, List.foldl_append]
theorem val_take (l : Bs) (k : Nat) (c : UInt8) (h : l[k]? = some c) : val (l.take (k + 1)) = 10 * val (l.take k) + (c.toNat - 48) := by
  rw [List.take_add_one, h]; exact val_snoc _ _
theorem fold_ge : ∀ (b : Bs) (n : Nat), n * 10 ^ b.length ≤ b.foldl (fun n c => 10 * n + (c.toNat - 48)) n
  | [], n => by simp
  | c :: b, n => by
    have := fold_ge b (10 * n + (c.toNat - 48))
    rw [List.foldl_cons, List.length_cons, Nat.pow_succ]
    refine Nat.le_trans ?_ this
    rw [Nat.mul_comm (10 ^ _), ← Nat.mul_assoc]
    exact Nat.mul_le_mul_right _ (by omega)
theorem val_mono (a b : Bs) : val a ≤ val (a ++ b) := by
  unfold val
  rw [List.foldl_append]
  refine Nat.le_trans ?_ (fold_ge b _)
  exact Nat.le_mul_of_pos_right _ (Nat.pow_pos (by omega))
theorem val_take_le (l : Bs) (k : Nat) : val (l.take k) ≤ val l := by
  have := val_mono (l.take k) (l.drop k)
  rwa [List.take_append_drop] at this
theorem val_big (c : UInt8) (r : Bs) (h : 49 ≤ c.toNat) : 10 ^ r.length ≤ val (c :: r) := by
  unfold val
  rw [List.foldl_cons]
  refine Nat.le_trans ?_ (fold_ge r _)
  exact Nat.le_mul_of_pos_left _ (by omega)
theorem tooBig_ref (d : Bs) (hd : d.all isDig = true) (hn : d ≠ []) : tooBig d = true ↔ (1 < d.length ∧ d.headD 0 = 48) ∨ 2147483647 < val d := by
  unfold tooBig
  simp only [Bool.or_eq_true, decide_eq_true_eq, Bool.and_eq_true, beq_iff_eq]
  constructor
  · rintro ((h | h) | h)
    · cases d with
      | nil => exact absurd rfl hn
      | cons c r =>
        by_cases h48 : c = 48
        · exact Or.inl ⟨by omega, by simpa using h48⟩
        · refine Or.inr ?_
          simp only [List.all_cons, Bool.and_eq_true] at hd
          have hc := dig_nat hd.1
          have h2 : c.toNat ≠ 48 := fun q => h48 (by rw [← UInt8.toNat_inj]; exact q)
          have h3 := val_big c r (by omega)
          have h4 : 10 ^ 10 ≤ 10 ^ r.length := Nat.pow_le_pow_right (by omega) (by simp at h; omega)
          omega
    · exact Or.inr h
    · exact Or.inl h
  · rintro (h | h)
    · exact Or.inr h
    · exact Or.inl (Or.inr h)
end Lx
theorem byte_at (s : ByteArray) (k : Nat) (h : k < s.size) : s.data.toList[k]? = some s[k] := by
  rw [List.getElem?_eq_getElem (by rw [size_toList]; exact h)]; rfl
set_option maxHeartbeats 1000000 in
theorem rIsName_any (s : ByteArray) (w : World) :
    Calls Tryz.prog 131 #[.string s] w fun e w' => e = .returned (.bool (Lx.isName s.data.toList)) ∧ Below w.heap.size w w' := by
  by_cases he : s.toList = []
  · have HF : Hid (Lx.isName s.data.toList = false) := by
      show _ = _
      rw [← Lib.toList_data, he]; rfl
    have he2 : s.toList.isEmpty = true := by simp [he]
    go_enter Tryz.func131, Tryz.ntmps131
    go_wp2_with fail
    go_ret
    exact ⟨ret_bool HF.out.symm, Below.refl _ _⟩
  have he2 : s.toList.isEmpty = false := by simp [he]
  have HE : Hid (s.data.toList ≠ []) := by rw [Lib.toList_data] at he; exact he
  have hpos : 0 < s.size := by rw [← size_toList]; exact List.length_pos_iff.2 HE.out
  by_cases hl : 40 < s.size
  · have HF : Hid (Lx.isName s.data.toList = false) := by
      show _ = _
      unfold Lx.isName
      rw [size_toList]
      have : decide (s.size ≤ 40) = false := by simp; omega
      rw [this]; simp
    go_enter Tryz.func131, Tryz.ntmps131
    go_wp2_with fail
    go_ret
    exact ⟨ret_bool HF.out.symm, Below.refl _ _⟩
  have hl2 : s.size ≤ 40 := by omega
  have hb0 := headD_byte s hpos
  obtain ⟨b1, hb1⟩ : ∃ b, b = Lx.isLet (s.data.toList.headD 0) := ⟨_, rfl⟩
  have c1 := rletter_any s[0] w
  rw [← hb0, ← hb1] at c1
  have H1 : Hid (Lx.isLet (s.data.toList.headD 0) = b1) := hb1.symm
  rw [hb0] at c1
  clear hb0 hb1 hl
  go_enter Tryz.func131, Tryz.ntmps131
  go_wp2_with fail
  refine c1.mono ?_
  rintro e w1 ⟨rfl, hW⟩
  subst hW
  clear c1
  cases b1
  · go_wp2_with fail
    go_ret
    exact ⟨ret_bool (Lx.name_ref_no HE.out H1.out).symm, Below.refl _ _⟩
  · go_wp2_with fail
    refine (rIsWord_any s w1).mono ?_
    rintro e w2 ⟨rfl, hb2⟩
    obtain ⟨b2, hb2'⟩ : ∃ b, b = Lx.isWord s.data.toList := ⟨_, rfl⟩
    rw [← hb2']
    have H2 : Hid (Lx.isWord s.data.toList = b2) := hb2'.symm
    clear hb2'
    cases b2
    · have HN : Hid (Lx.isName s.data.toList = s.data.toList.all Lx.isPt) := Lx.name_ref HE.out (by rw [size_toList]; omega) H1.out H2.out
      go_wp2_with fail
      go_loopw [3] (fun i wr => ∃ k : Nat, k ≤ s.size ∧ i = .int .i64 k ∧ (s.data.toList.take k).all Lx.isPt = true ∧ wr = w2) (fun i _ => s.size - (intOf i).toNat)
      case atStart => exact ⟨0, Nat.zero_le _, rfl, rfl, rfl⟩
      case round =>
        obtain ⟨k, hk, rfl, hall, hB⟩ := hrel
        subst hB
        by_cases hlt : k < s.size
        · have HA : Hid ((s.data.toList.take k).all Lx.isPt = true) := hall
          have HK : Hid (s.data.toList[k]? = some s[k]) := byte_at s k hlt
          have hk2 : (k : Int) < (s.size : Int) := by omega
          have c3 := rletter_any s[k] wr
          have c4 := rdigit_any s[k] wr
          obtain ⟨b3, hb3⟩ : ∃ b, b = Lx.isLet s[k] := ⟨_, rfl⟩
          obtain ⟨b4, hb4⟩ : ∃ b, b = Lx.isDig s[k] := ⟨_, rfl⟩
          rw [← hb3] at c3
          rw [← hb4] at c4
          have HP : Hid (Lx.isPt s[k] = (b3 || b4)) := by show _ = _; unfold Lx.isPt; rw [hb3, hb4]
          clear hb3 hb4 hall
          cases b3
          · go_wp2_with fail
            refine c3.mono ?_
            rintro e w5 ⟨rfl, hW⟩
            subst hW
            go_wp2_with fail
            refine c4.mono ?_
            rintro e w5 ⟨rfl, hW⟩
            subst hW
            clear c3 c4
            cases b4
            · go_wp2_with fail
              go_ret
              exact ⟨ret_bool (by rw [HN.out, Lx.all_no _ k _ HK.out (by rw [HP.out]; rfl)]), hb2⟩
            · have HF : Hid ((s.data.toList.take (k + 1)).all Lx.isPt = true) := by show _ = _; rw [Lx.all_take _ k _ HK.out, HA.out, HP.out]; rfl
              go_wp2_with fail
              go_roundw
              case rel => exact ⟨k + 1, by omega, by go_num, HF.out, by trivial⟩
              case measure => simp [intOf]; omega
          · have HF : Hid ((s.data.toList.take (k + 1)).all Lx.isPt = true) := by show _ = _; rw [Lx.all_take _ k _ HK.out, HA.out, HP.out]; rfl
            go_wp2_with fail
            refine c3.mono ?_
            rintro e w5 ⟨rfl, hW⟩
            subst hW
            clear c3 c4
            go_wp2_with fail
            go_roundw
            case rel => exact ⟨k + 1, by omega, by go_num, HF.out, by trivial⟩
            case measure => simp [intOf]; omega
        · have hke : k = s.size := by omega
          have HF : Hid (Lx.isName s.data.toList = true) := by
            show _ = _
            rw [HN.out, ← hall, hke, List.take_of_length_le (by rw [size_toList]; omega)]
          clear hall
          subst hke
          go_wp2_with fail
          go_ret
          exact ⟨ret_bool HF.out.symm, hb2⟩
    · have HF : Hid (Lx.isName s.data.toList = false) := by
        show _ = _
        cases h : Lx.isName s.data.toList with
        | false => rfl
        | true => have := Lx.name_not_word h; rw [H2.out] at this; cases this
      go_wp2_with fail
      go_ret
      exact ⟨ret_bool HF.out.symm, hb2⟩
def ValPost (d : ByteArray) (w : World) (e : Ending) (w' : World) : Prop := ∃ n : Nat, e = .returned (.int .i64 n) ∧ (2147483647 < n ↔ 2147483647 < Lx.val d.data.toList) ∧ (n ≤ 2147483647 → n = Lx.val d.data.toList) ∧ w' = w
set_option maxHeartbeats 1000000 in
theorem rValue_any (s : ByteArray) (hd : s.data.toList.all Lx.isDig = true) (hs : s.size ≤ 100000) (w : World) :
    Calls Tryz.prog 116 #[.string s] w (ValPost s w) := by
  have HD : Hid (s.data.toList.all Lx.isDig = true) := hd
  clear hd
  go_enter Tryz.func116, Tryz.ntmps116
  go_wp2_with fail
  go_loopw [3, 4] (fun n i wr => ∃ k : Nat, k ≤ s.size ∧ i = .int .i64 k ∧ n = .int .i64 (Lx.val (s.data.toList.take k) : Nat) ∧ Lx.val (s.data.toList.take k) ≤ 21474836479 ∧ wr = w) (fun _ i _ => s.size - (intOf i).toNat)
  case atStart => exact ⟨0, Nat.zero_le _, rfl, rfl, by simp [Lx.val], rfl⟩
  case round =>
    obtain ⟨k, hk, rfl, rfl, hle, hB⟩ := hrel
    subst hB
    have hmono := Lx.val_take_le s.data.toList k
    obtain ⟨n, hn⟩ : ∃ n, n = Lx.val (s.data.toList.take k) := ⟨_, rfl⟩
    rw [← hn] at hle hmono ⊢
    have HNN : Hid (n = Lx.val (s.data.toList.take k)) := hn
    have HM : Hid (n ≤ Lx.val s.data.toList) := hmono
    clear hn hmono
    by_cases hlt : k < s.size
    · by_cases hbig : n ≤ 2147483647
      · have HK : Hid (s.data.toList[k]? = some s[k]) := byte_at s k hlt
        have hdk := Lx.dig_nat (List.all_eq_true.1 HD.out s[k] (List.mem_of_getElem? HK.out))
        have hk2 : (k : Int) < (s.size : Int) := by omega
        have hn2 : (n : Int) ≤ 2147483647 := by omega
        have HV : Hid (Lx.val (s.data.toList.take (k + 1)) = 10 * n + (s[k].toNat - 48)) := by show _ = _; rw [Lx.val_take _ k _ HK.out, ← HNN.out]
        obtain ⟨q, hq⟩ : ∃ q, s[k].toNat = q + 48 := ⟨s[k].toNat - 48, by omega⟩
        have hq9 : q ≤ 9 := by omega
        have HQ : Hid (s[k].toNat = q + 48) := hq
        go_wp2_with fail
        go_roundw
        case rel =>
          have e : Lx.val (s.data.toList.take (k + 1)) = 10 * n + q := by rw [HV.out, HQ.out]; omega
          exact ⟨k + 1, by omega, by go_num, by rw [e]; go_num, by omega, by trivial⟩
        case measure => simp [intOf]; omega
      · have hn2 : (2147483647 : Int) < (n : Int) := by omega
        have hk2 : (k : Int) < (s.size : Int) := by omega
        go_wp2_with fail
        go_ret
        exact ⟨n, rfl, ⟨fun _ => by have := HM.out; omega, fun _ => by omega⟩, fun h => by omega, rfl⟩
    · have hke : k = s.size := by omega
      have HF : Hid (n = Lx.val s.data.toList) := by
        show _ = _
        rw [HNN.out, hke, List.take_of_length_le (by rw [size_toList]; omega)]
      subst hke
      go_wp2_with fail
      go_ret
      exact ⟨n, rfl, by rw [HF.out], fun _ => HF.out, rfl⟩
end Go.Proofs.YtjnpkdpljmkpiaaGreatDoor
