/- How deep nodes are: the walk. May an expression be: the walk. The nodes of which a node is made, in order: the walk. -/
import Derived.Laws.MakeOwn
import Derived.Laws.OwnMore
import Derived.OneCell
import Derived.Test.YtahalimekacliaaGreatDoorJ5
set_option linter.unusedVariables false
set_option linter.unusedSimpArgs false
namespace Go.Proofs.YtahalimekacliaaGreatDoor
open Go.RowKit Go.Shelf Tx
def RowL {α : Type} (f : α → Value) (T base : Nat) (w : World) (g n : Nat) (L : List α) : Prop := w.ownsRow base T 1 (.slice (some ⟨g, 0, none⟩) n n) n (L.map f)
section
variable {α : Type} {f : α → Value} {T base g n : Nat} {w w' : World} {L : List α}
theorem RowL.len (h : RowL f T base w g n L) : L.length = n := by
  have := h.1; simpa using this
theorem RowL.cell (h : RowL f T base w g n L) {j : Nat} {x : α} (hx : L[j]? = some x) : w.cell? ⟨g, j, none⟩ = some (f x) := by
  have hj := (List.getElem?_eq_some_iff.1 hx).1
  have hn := h.len
  have := World.ownsRow.cellAt h j (by omega)
  rw [this]; simp [hx]
theorem RowL.free (h : RowL f T base w g n L) (j : Nat) : w.frozen? ⟨g, j, none⟩ = false := World.ownsRow.frozenAt h j
theorem RowL.set (h : RowL f T base w g n L) (j : Nat) (y : α) : RowL f T base (w.setCell ⟨g, j, none⟩ (f y)) g n (L.set j y) := by
  have := (World.ownsRow.stored h j (f y)).1
  unfold RowL; rw [List.map_set]; exact this
theorem RowL.below (h : RowL f T base w g n L) (hb : Below w.heap.size w w') : RowL f T base w' g n L := below_row hb h
theorem RowL.lt (h : RowL f T base w g n L) : base ≤ g ∧ g < w.heap.size := by
  have := World.ownsRow.lt h g rfl; exact this
theorem RowL.sl {enc : α → List Value} (he : ∀ x, enc x = [f x]) (h : RowL f T base w g n L) : Sl enc 1 w (.slice (some ⟨g, 0, none⟩) n n) L := by
  have hn := h.len
  refine Or.inr ⟨g, 0, n, by rw [hn], by omega, h.lt.2, fun i x hi j u hu => ?_⟩
  rw [he] at hu
  cases j with
  | succ j => simp at hu
  | zero =>
    simp at hu; subst hu
    have := h.cell hi
    simpa using this
end
theorem below_set {base : Nat} {a w : World} {g j : Nat} {v : Value} (h : Below base a w) (hg : base ≤ g) : Below base a (w.setCell ⟨g, j, none⟩ v) := h.setCell hg _
theorem infoI : (Tryz.prog.info? 3).map (fun i => (i.zero, i.size, i.bytes)) = some (some (.int .i64 0), 1, 8) := by kernel_rfl
abbrev vI (n : Int) : Value := .int .i64 n
structure DepRow (d : List Nat) (i : Nat) (m : Nat) (L : List Int) : Prop where
  old : ∀ j x, j < i → d[j]? = some x → L[j]? = some (x : Int)
  now : i < L.length → L[i]? = some (m : Int)
  new : ∀ j, i < j → j < L.length → L[j]? = some 0
theorem DepRow.start (d : List Nat) (n : Nat) : DepRow d 0 0 (List.replicate n 0) :=
  ⟨fun j x h => by omega, fun h => by simp at h; rw [List.getElem?_replicate, if_pos h]; rfl, fun j _ h => by simp at h; rw [List.getElem?_replicate, if_pos h]⟩
theorem DepRow.raise {d : List Nat} {i m : Nat} {L : List Int} (h : DepRow d i m L) (m' : Nat) : DepRow d i m' (L.set i (m' : Int)) := by
  refine ⟨fun j x hj hx => ?_, fun hi => ?_, fun j hj hl => ?_⟩
  · rw [List.getElem?_set, if_neg (by omega)]; exact h.old j x hj hx
  · simp at hi; rw [List.getElem?_set, if_pos rfl, if_pos hi]
  · simp at hl; rw [List.getElem?_set, if_neg (by omega)]; exact h.new j hj hl
theorem DepRow.next {d : List Nat} {i m : Nat} {L : List Int} (h : DepRow d i m L) (hi : i < L.length) (hd : d[i]? = some m) : DepRow d (i + 1) 0 L := by
  refine ⟨fun j x hj hx => ?_, fun hl => h.new _ (by omega) hl, fun j hj hl => h.new j (by omega) hl⟩
  by_cases e : j = i
  · subst e; rw [hd] at hx; cases hx; exact h.now hi
  · exact h.old j x (by omega) hx
theorem DepRow.done {d : List Nat} {n m : Nat} {L : List Int} (h : DepRow d n m L) (hd : d.length = n) (hL : L.length = n) : L = d.map Int.ofNat := by
  apply List.ext_getElem?
  intro j
  rw [List.getElem?_map]
  rcases Nat.lt_or_ge j n with hj | hj
  · rw [List.getElem?_eq_getElem (l := d) (by omega)]
    exact h.old j _ hj (List.getElem?_eq_getElem (by omega))
  · rw [List.getElem?_eq_none (by omega), List.getElem?_eq_none (by omega)]; rfl
def kidMax (d : List Nat) (i : Nat) (l : List Int) : Nat := l.foldl (fun (m : Nat) (k : Int) => if 0 ≤ k ∧ k < (i : Int) then max m (d.getD k.toNat 0) else m) 0
theorem deps_at {e : List Nd} {i : Nat} {x : Nd} (h : e[i]? = some x) : (deps e)[i]? = some (kidMax (deps e) i (kids x) + 1) := by
  obtain ⟨he, hl⟩ := split_get h
  have e1 : e = (e.take i ++ [x]) ++ e.drop (i + 1) := by rw [List.append_assoc]; exact he
  have h1 : (deps e)[i]? = (deps (e.take i ++ [x]))[i]? := by
    conv => lhs; rw [e1]
    exact deps_app _ _ i (by simp [hl])
  rw [h1, deps_snoc, List.getElem?_append_right (by rw [deps_len, hl]; exact Nat.le_refl _), deps_len, hl]
  simp only [Nat.sub_self, List.getElem?_cons_zero, Option.some.injEq]
  unfold depOf kidMax
  rw [deps_len, hl]
  congr 1
  apply foldl_same
  intro m k _
  by_cases hk : 0 ≤ k ∧ k < (i : Int)
  · rw [if_pos hk, if_pos hk]
    have : (deps (e.take i)).getD k.toNat 0 = (deps e).getD k.toNat 0 := by
      rw [List.getD_eq_getElem?_getD, List.getD_eq_getElem?_getD]
      conv => rhs; rw [he]
      rw [deps_app (e.take i) _ k.toNat (by omega)]
    rw [this]
  · rw [if_neg hk, if_neg hk]
theorem kidMax_snoc (d : List Nat) (i : Nat) (l : List Int) (k : Int) : kidMax d i (l ++ [k]) = if 0 ≤ k ∧ k < (i : Int) then max (kidMax d i l) (d.getD k.toNat 0) else kidMax d i l := by
  unfold kidMax; rw [List.foldl_append]; rfl
theorem take_at {α : Type} {l : List α} {k : Nat} {x : α} (h : l[k]? = some x) : l.take (k + 1) = l.take k ++ [x] := by rw [List.take_add_one, h]; rfl
theorem deps_le (e : List Nd) : ∀ j x, (deps e)[j]? = some x → x ≤ j + 1 := by
  intro j
  induction j using Nat.strongRecOn with
  | _ j ih =>
    intro x hx
    have hj := (List.getElem?_eq_some_iff.1 hx).1
    rw [deps_len] at hj
    rw [deps_at (List.getElem?_eq_getElem hj)] at hx
    simp only [Option.some.injEq] at hx
    have : ∀ l : List Int, kidMax (deps e) j l ≤ j := by
      intro l
      induction l using snoc_ind with
      | h0 => exact Nat.zero_le _
      | h1 l k ihl =>
        rw [kidMax_snoc]
        split
        · rename_i hk
          have h2 := ih k.toNat (by omega)
          rw [List.getD_eq_getElem?_getD]
          cases hq : (deps e)[k.toNat]? with
          | none => simp; exact ihl
          | some y => have := h2 y hq; simp; omega
        · exact ihl
    have := this (kids e[j])
    omega
set_option maxRecDepth 100000 in
set_option maxHeartbeats 4000000 in
theorem depths_any (e : List Nd) (v : Value) (w : World) (he : e.length ≤ 5000) (hv : IsE w v e) :
    Calls Tryz.prog 117 #[v] w fun r w' => ∃ g, r = .returned (.slice (some ⟨g, 0, none⟩) e.length e.length) ∧ RowL vI 3 w.heap.size w' g e.length ((deps e).map Int.ofNat) ∧ Below w.heap.size w w' := by
  obtain ⟨a, c, rfl, hc, hx⟩ := hv.form
  obtain ⟨i0, hi, hz0, hz1, hz2⟩ := info_parts infoI
  obtain ⟨n, hn⟩ : ∃ n, n = e.length := ⟨_, rfl⟩
  rw [← hn] at hc he ⊢
  have HN : Hid (n = e.length) := hn
  have HX : Hid (∀ W, Below w.heap.size w W → ∀ i x, e[i]? = some x → ∃ b o, a = some ⟨b, o, none⟩ ∧ ∀ j u, (ndL x)[j]? = some u → W.cell? ⟨b, o + i * 6 + j, none⟩ = some u) := hx
  clear hn hx hv
  go_enter Tryz.func117, Tryz.ntmps117
  go_wp2_with (at_make; refine wpList_make_full _ rfl _ _ 107 rfl w.heap.size 3 i0 (.int .i64 0) 1 Tryz.underlying107 hi hz0 hz1 _ _ _ _ n rfl rfl rfl rfl ?_ ?_ ?_ ?_; rotate_right; intro w2 hown2 hgrow2)
  case refine_1 => rw [hz2]; omega
  case refine_2 => unfold maxLen; omega
  case refine_3 => exact Nat.le_refl _
  have hB2 : Below w.heap.size w w2 := (Below.refl _ _).grown hgrow2 (Nat.le_refl _) (by simp)
  have hR2 : RowL vI 3 w.heap.size w2 w.heap.size n (List.replicate n 0) := by
    unfold RowL
    have := hown2
    simp only [Value.cells, Nat.mul_one, toList_madeCells_one] at this
    simpa using this
  clear hown2 hgrow2 hi hz0 hz1 hz2
  obtain ⟨bx, hbx⟩ : ∃ bx, bx = w.heap.size := ⟨_, rfl⟩
  rw [← hbx] at hB2 hR2 ⊢
  have HBX : Hid (bx = w.heap.size) := hbx
  clear hbx
  go_loopw [13] (fun i wr => ∃ (k : Nat) (L : List Int), i = .int .i64 k ∧ k ≤ n ∧ RowL vI 3 bx wr bx n L ∧ DepRow (deps e) k 0 L ∧ Below bx w wr) (fun i _ => n - (intOf i).toNat)
  case atStart => exact ⟨0, _, rfl, Nat.zero_le _, hR2, DepRow.start _ _, hB2⟩
  case round =>
    obtain ⟨k, L, rfl, hk, hR, hD, hB⟩ := hrel
    clear hB2 hR2
    by_cases hlt : k < n
    · obtain ⟨x, hx⟩ : ∃ x, e[k]? = some x := ⟨_, List.getElem?_eq_getElem (by have := HN.out; omega)⟩
      obtain ⟨b, o, rfl, hcell⟩ := HX.out wr (by rw [← HBX.out]; exact hB) k x hx
      obtain ⟨c0, c1, c2, c3, c4, c5⟩ := nd_cells hcell
      have HXX := Lib.hid hx
      have hkn : (k : Int) < (n : Int) := by omega
      have hk0 : (0 : Int) ≤ (k : Int) := by omega
      clear hx hcell
      go_wp2_with fail
      refine (Kids_any x _).mono ?_
      rintro r w1 ⟨kv, rfl, hkr0, hb1⟩
      have nb := (Below.refl wr.heap.size wr).alloc (Nat.le_refl _) (.cells (ndA x) 86)
      have hb2 := below_next nb hb1
      have hR1 := hR.below hb2
      have hltb := hR.lt.2
      have hB1 : Below bx w w1 := hB.trans (hb2.mono (by omega))
      have hkr := hkr0.mono (b2 := bx + 1) (by simp; omega)
      clear hkr0 c0 c1 c2 c3 c4 c5 hR hB nb hb2 hb1
      obtain ⟨ka, kc, rfl, hkc⟩ := hkr.form
      obtain ⟨kn, hkn2⟩ : ∃ kn, kn = (kids x).length := ⟨_, rfl⟩
      have h3 := kids_len x
      rw [← hkn2] at hkr hkc h3 ⊢
      have HKN := Lib.hid hkn2
      clear hkn2
      go_wp2_with fail
      obtain ⟨wo, rfl⟩ : ∃ wo : World, wo = wr := ⟨_, rfl⟩
      go_loopw [21] (fun i wr => ∃ (t : Nat) (L : List Int), i = .int .i64 t ∧ t ≤ kn ∧ RowL vI 3 bx wr bx n L ∧ DepRow (deps e) k (kidMax (deps e) k ((kids x).take t)) L ∧ Below bx w wr ∧ RowI (bx + 1) wr (.slice ka kn kc) (kids x)) (fun i _ => kn - (intOf i).toNat)
      case atStart => exact ⟨0, L, rfl, Nat.zero_le _, hR1, hD, hB1, hkr⟩
      case round =>
        obtain ⟨t, L, rfl, ht, hR, hD, hB, hkr⟩ := hrel
        clear hR1 hB1
        by_cases hlt2 : t < kn
        · obtain ⟨y, hy⟩ : ∃ y, (kids x)[t]? = some y := ⟨_, List.getElem?_eq_getElem (by have := HKN.out; omega)⟩
          obtain ⟨g, rfl, hg1, hg2, cy, -⟩ := hkr.at hy
          have HS : Hid (kidMax (deps e) k ((kids x).take (t + 1)) = if 0 ≤ y ∧ y < (k : Int) then max (kidMax (deps e) k ((kids x).take t)) ((deps e).getD y.toNat 0) else kidMax (deps e) k ((kids x).take t)) := by
            show _ = _; rw [take_at hy, kidMax_snoc]
          have htk : (t : Int) < (kn : Int) := by omega
          have ht0 : (0 : Int) ≤ (t : Int) := by omega
          clear hy
          have HR := Lib.hid hR
          have HD := Lib.hid hD
          by_cases hyr : 0 ≤ y ∧ y < (k : Int)
          · have HS2 : Hid (kidMax (deps e) k ((kids x).take (t + 1)) = max (kidMax (deps e) k ((kids x).take t)) ((deps e).getD y.toNat 0)) := by show _ = _; rw [HS.out, if_pos hyr]
            obtain ⟨hy0, hyk⟩ := hyr
            obtain ⟨j, rfl⟩ : ∃ j : Nat, y = (j : Int) := ⟨y.toNat, by omega⟩
            have hlL := hR.len
            obtain ⟨dj, hdj⟩ : ∃ dj, (deps e)[j]? = some dj := ⟨_, List.getElem?_eq_getElem (by rw [deps_len]; have := HN.out; omega)⟩
            have HDJ : Hid ((deps e).getD (j : Int).toNat 0 = dj) := by show _ = _; rw [List.getD_eq_getElem?_getD, show (j : Int).toNat = j by omega, hdj]; rfl
            have cj := hR.cell (hD.old j dj (by omega) hdj)
            have ck := hR.cell (hD.now (by omega))
            have fk := hR.free k
            obtain ⟨m, hm⟩ : ∃ m, m = kidMax (deps e) k ((kids x).take t) := ⟨_, rfl⟩
            rw [← hm] at ck
            have HM := Lib.hid hm
            have hmax : ∀ (ts : Array TypeId) (t' : TypeId) (W : World), (Builtin.max_ ts t' #[.int .i64 (m : Int), .int .i64 (dj : Int)]).run Tryz.prog W = .ok (.int .i64 ((max m dj : Nat) : Int)) W := fun ts t' W => by
              rw [run_max_int2]; congr 2; split <;> omega
            have hjn : (j : Int) < (n : Int) := by omega
            have HKR := Lib.hid hkr
            clear hm hdj hlL hR hD hkr
            go_wp2_with fail
            go_region
            go_wp2_with fail
            go_roundw
            case rel =>
              refine ⟨t + 1, L.set k ((max m dj : Nat) : Int), by go_num, by omega, HR.out.set k _, ?_, (below_set hB (Nat.le_refl _)).drew, HKR.out.other (by omega) _ _⟩
              rw [HS2.out, ← HM.out, HDJ.out]
              exact HD.out.raise _
            case measure => simp [intOf]; omega
          · have HS2 : Hid (kidMax (deps e) k ((kids x).take (t + 1)) = kidMax (deps e) k ((kids x).take t)) := by show _ = _; rw [HS.out, if_neg hyr]
            have HKR := Lib.hid hkr
            have hor : ¬ (0 : Int) ≤ y ∨ ((0 : Int) ≤ y ∧ ¬ y < (k : Int)) := by omega
            clear hyr hR hD hkr
            rcases hor with h1 | ⟨h1, h2⟩
            all_goals
              go_wp2_with fail
              go_roundw
              case rel => exact ⟨t + 1, L, by go_num, by omega, HR.out, by rw [HS2.out]; exact HD.out, hB, HKR.out⟩
              case measure => simp [intOf]; omega
        · have hte : t = kn := by omega
          subst hte
          have hlL := hR.len
          have hfull : (kids x).take t = kids x := List.take_of_length_le (by have := HKN.out; omega)
          rw [hfull] at hD
          obtain ⟨m, hm⟩ : ∃ m, m = kidMax (deps e) k (kids x) := ⟨_, rfl⟩
          rw [← hm] at hD
          have hda := deps_at HXX.out
          rw [← hm] at hda
          have hmle := deps_le e k _ hda
          have HDA := Lib.hid hda
          have ck := hR.cell (hD.now (by omega))
          have fk := hR.free k
          have hmz : (m : Int) ≤ 5000 := by omega
          have hm0 : (0 : Int) ≤ (m : Int) := by omega
          have HR := Lib.hid hR
          have HD := Lib.hid hD
          have HL := Lib.hid hlL
          clear hm hda hR hD hkr hfull hlL
          go_wp2_with fail
          go_roundw
          case rel =>
            refine ⟨k + 1, L.set k ((m + 1 : Nat) : Int), by go_num, by omega, HR.out.set k _, ?_, below_set hB (Nat.le_refl _)⟩
            exact (HD.out.raise (m + 1)).next (by rw [List.length_set]; have := HL.out; omega) HDA.out
          case measure => simp [intOf]; omega
    · have hke : k = n := by omega
      subst hke
      have hlL := hR.len
      have HL : Hid (L = (deps e).map Int.ofNat) := hD.done (by rw [deps_len]; exact HN.out.symm) hlL
      have HR := Lib.hid hR
      clear hD hlL hR
      go_wp2_with fail
      go_ret
      exact ⟨bx, rfl, by rw [← HL.out, ← HBX.out]; exact HR.out, by rw [← HBX.out]; exact hB⟩
set_option maxHeartbeats 1000000 in
theorem Depth_any (e : List Nd) (v : Value) (w : World) (he : e.length ≤ 5000) (hv : IsE w v e) :
    Calls Tryz.prog 106 #[v] w fun r w' => r = .returned (.int .i64 (depL e)) ∧ Below w.heap.size w w' := by
  obtain ⟨a, c, rfl, hc, hx⟩ := hv.form
  obtain ⟨n, hn⟩ : ∃ n, n = e.length := ⟨_, rfl⟩
  have hd := depths_any e _ w he hv
  rw [← hn] at hc he hd ⊢
  by_cases h0 : n = 0
  · have HD : Hid (depL e = 0) := by
      show _ = _
      have : e = [] := List.eq_nil_of_length_eq_zero (by omega)
      rw [this]; rfl
    subst h0
    clear hn hx hv hd
    go_enter Tryz.func106, Tryz.ntmps106
    go_wp2_with fail
    go_ret
    exact ⟨by rw [HD.out]; rfl, Below.refl _ _⟩
  · have e0 : ((n : Int) == 0) = false := by rw [beq_eq_false_iff_ne]; omega
    have hn1 : (0 : Int) ≤ (n : Int) - 1 := by omega
    have hn2 : (1 : Int) ≤ (n : Int) := by omega
    have hl : (deps e)[n - 1]? = some (depL e) := by
      unfold depL
      have h1 : (deps e).length = n := by rw [deps_len, hn]
      rw [List.getLastD_eq_getLast?, List.getLast?_eq_getElem?, h1]
      obtain ⟨y, hy⟩ : ∃ y, (deps e)[n - 1]? = some y := ⟨_, List.getElem?_eq_getElem (by omega)⟩
      rw [hy]; rfl
    have HL : Hid (((deps e).map Int.ofNat)[n - 1]? = some (depL e : Int)) := by show _ = _; rw [List.getElem?_map, hl]; rfl
    have ht : ((n : Int) - 1).toNat = n - 1 := by omega
    clear hn hx hv hl h0
    go_enter Tryz.func106, Tryz.ntmps106
    go_wp2_with fail
    refine hd.mono ?_
    rintro r w1 ⟨g, rfl, hR, hb⟩
    have cl := hR.cell HL.out
    clear hR hd
    go_wp2_with fail
    go_ret
    exact ⟨rfl, hb⟩
end Go.Proofs.YtahalimekacliaaGreatDoor
namespace Go.Proofs.YtahalimekacliaaGreatDoor
open Go.RowKit Go.Shelf Tx
structure MayLp (e : List Nd) (i : Nat) (P : List Int) (U : List Bool) : Prop where
  ok : ∀ j x, j < i → e[j]? = some x → nodeB x = true ∧ inR x j ∧ argsOk e x = true
  nodup : P.Nodup
  mark : ∀ j, j < U.length → U[j]? = some (decide ((j : Int) ∈ P))
theorem MayLp.start (e : List Nd) : MayLp e 0 [] (List.replicate e.length false) :=
  ⟨fun j x h => by omega, List.nodup_nil, fun j hj => by simp at hj; rw [List.getElem?_replicate, if_pos hj]; simp⟩
theorem MayLp.put {e : List Nd} {i : Nat} {P : List Int} {U : List Bool} (h : MayLp e i P U) {k : Nat} (hk : (k : Int) ∉ P) : MayLp e i (P ++ [(k : Int)]) (U.set k true) := by
  refine ⟨h.ok, ?_, fun j hj => ?_⟩
  · rw [List.nodup_append]
    exact ⟨h.nodup, by simp, fun a ha b hb e => by rw [List.mem_singleton.1 hb] at e; exact hk (e ▸ ha)⟩
  · rw [List.length_set] at hj
    rw [List.getElem?_set]
    by_cases e : k = j
    · subst e; rw [if_pos rfl, if_pos hj]; simp
    · rw [if_neg e, h.mark j hj]
      have : ¬ (j : Int) = (k : Int) := by omega
      simp [this]
theorem MayLp.next {e : List Nd} {i : Nat} {U : List Bool} {x : Nd} (h : MayLp e i (allK (e.take i) ++ kids x) U) (hx : e[i]? = some x) (h1 : nodeB x = true) (h2 : inR x i) (h3 : argsOk e x = true) : MayLp e (i + 1) (allK (e.take (i + 1))) U := by
  refine ⟨fun j y hj hy => ?_, ?_, ?_⟩
  · by_cases q : j = i
    · subst q; rw [hx] at hy; cases hy; exact ⟨h1, h2, h3⟩
    · exact h.ok j y (by omega) hy
  · rw [take_snoc' hx, allK_snoc]; exact h.nodup
  · rw [take_snoc' hx, allK_snoc]; exact h.mark
end Go.Proofs.YtahalimekacliaaGreatDoor
namespace Go.Proofs.YtahalimekacliaaGreatDoor
open Go.RowKit Go.Shelf Tx
structure Gr (w : World) (v : Value) (w' : World) (v' : Value) : Prop where
  os : w'.os = w.os
  tape : w'.tape = w.tape
  output : w'.output = w.output
  size : w.heap.size ≤ w'.heap.size
  block : ∀ k, k < w.heap.size → v.ownBlock ≠ some k → w'.heap[k]? = w.heap[k]?
  own : ∀ g, v'.ownBlock = some g → v.ownBlock = some g ∨ w.heap.size ≤ g
theorem Gr.refl (w : World) (v : Value) : Gr w v w v := ⟨rfl, rfl, rfl, Nat.le_refl _, fun _ _ _ => rfl, fun _ h => Or.inl h⟩
theorem Gr.of_below {w w' : World} (v : Value) (h : Below w.heap.size w w') : Gr w v w' v := ⟨h.os, h.tape, h.output, h.size, fun k hk _ => h.block k hk, fun _ h => Or.inl h⟩
theorem Gr.of_grown {w w' : World} {v v' : Value} (h : w.grownBy w' v.ownBlock) (ho : ∀ g, v'.ownBlock = some g → v.ownBlock = some g ∨ w.heap.size ≤ g) : Gr w v w' v' :=
  ⟨h.os, h.tape, h.output, h.size, fun k hk hn => h.block k hk (fun e => hn e.symm), ho⟩
theorem Gr.trans {w w1 w2 : World} {v v1 v2 : Value} (h : Gr w v w1 v1) (k : Gr w1 v1 w2 v2) : Gr w v w2 v2 :=
  ⟨k.os.trans h.os, k.tape.trans h.tape, k.output.trans h.output, Nat.le_trans h.size k.size,
   fun i hi hn => (k.block i (Nat.lt_of_lt_of_le hi h.size) (fun e => by
     rcases h.own i e with q | q
     · exact hn q
     · omega)).trans (h.block i hi hn),
   fun g hg => by
     rcases k.own g hg with q | q
     · exact h.own g q
     · exact Or.inr (Nat.le_trans h.size q)⟩
theorem Gr.below {base : Nat} {w0 w w' : World} {v v' : Value} (hb : Below base w0 w) (h : Gr w v w' v') (hB : base ≤ w.heap.size) (hv : ∀ g, v.ownBlock = some g → base ≤ g) : Below base w0 w' :=
  hb.trans ⟨h.os, h.tape, h.output, h.size, fun k hk => h.block k (by omega) (fun e => by have := hv k e; omega)⟩
theorem Gr.blk {w w' : World} {v v' : Value} (h : Gr w v w' v') {b T : Nat} {cs : Array Value} (hb : Blk w b cs T) (hn : v.ownBlock ≠ some b) : Blk w' b cs T := (h.block b hb.lt hn).trans hb
theorem Gr.rowI {w w' : World} {v v' : Value} (h : Gr w v w' v') {base : Nat} {u : Value} {l : List Int} (hr : RowI base w u l) (hn : ∀ g, u.ownBlock = some g → v.ownBlock ≠ some g) : RowI base w' u l := by
  rcases hr with hr | ⟨g, rfl, h2, h3⟩
  · exact Or.inl hr
  · exact Or.inr ⟨g, rfl, h2, h.blk h3 (hn g rfl)⟩
theorem Gr.set {w : World} {v : Value} {w' : World} {v' : Value} (h : Gr w v w' v') {g : Nat} (hg : w.heap.size ≤ g) (i : Nat) (y : Value) : Gr w v (w'.setCell ⟨g, i, none⟩ y) v' := by
  refine ⟨h.os, h.tape, h.output, ?_, fun k hk hn => ?_, h.own⟩
  · rw [show (w'.setCell ⟨g, i, none⟩ y).heap.size = w'.heap.size by simp [World.setCell]]; exact h.size
  · rw [Below.heap_setCell _ _ _ _ (by show k ≠ g; omega)]; exact h.block k hk hn
theorem OwnE.form {base : Nat} {w : World} {v : Value} {e : List Nd} (h : OwnE base w v e) : ∃ a c, v = .slice a e.length c ∧ e.length ≤ c := by
  obtain ⟨a, c, h1, h2, _⟩ := (OwnE.isE h).form
  exact ⟨a, c, h1, h2⟩
theorem OwnE.low {base : Nat} {w : World} {v : Value} {e : List Nd} (h : OwnE base w v e) : ∀ g, v.ownBlock = some g → base ≤ g ∧ g < w.heap.size := fun g hg => World.ownsRow.lt h g hg
theorem OwnE.set {base : Nat} {w : World} {v : Value} {e : List Nd} (h : OwnE base w v e) {g : Nat} (hg : v.ownBlock ≠ some g) (i : Nat) (y : Value) : OwnE base (w.setCell ⟨g, i, none⟩ y) v e := ownsRow_setCell_other h hg y
theorem RowI.set {base : Nat} {w : World} {a : Option Addr} {n c : Nat} {l : List Int} (h : RowI base w (.slice a n c) l) {g : Nat} (ha : a = some ⟨g, 0, none⟩) (t : Nat) (y : Int) : RowI base (w.setCell ⟨g, t, none⟩ (.int .i64 y)) (.slice a n c) (l.set t y) := by
  rcases h with ⟨_, h⟩ | ⟨g', h1, h2, h3⟩
  · subst ha; cases h
  · subst ha; cases h1
    refine Or.inr ⟨g, by rw [List.length_set], h2, ?_⟩
    have := h3.setAt t (.int .i64 y)
    rw [List.map_set]
    simpa using this
end Go.Proofs.YtahalimekacliaaGreatDoor
