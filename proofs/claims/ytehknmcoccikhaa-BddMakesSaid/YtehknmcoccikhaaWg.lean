/- Walks: Witness; Value's and Witness's other ways. -/
import Derived.Test.YtehknmcoccikhaaWf
import Derived.Test.YtehknmcoccikhaaMathb
namespace Go.Proofs.Ytehknmcoccikhaa
open Go.RowKit

set_option maxHeartbeats 400000 in
theorem Value_bad (w : World) (s : St) (h : StoreAt w s) (f : Int) (a : Option Addr) (n c : Nat) (hbad : okIn s.ns.length [f] = false ∨ n ≠ s.vars) :
    Calls Try.prog 14 #[.pointer (some ⟨s.sb, 0, none⟩), .int .i64 f, .slice a n c] w fun e w' => e = .returned (.tuple #[.bool false, .int .i64 1]) ∧ Below w.heap.size w w' := by
  have hB : Below w.heap.size w (w.alloc (.cells #[.int .i64 f] 3)) := (Below.refl _ _).alloc (Nat.le_refl _) _
  cases hok : okIn s.ns.length [f]
  · go_enter Try.func14, Try.ntmps14
    go_wp2_with fail
    refine (are_any _ s (h.below hB) _ [f] (SlInts.new1 w f)).mono ?_
    rintro e w1 ⟨rfl, hw1⟩
    rw [hok]
    have hB1 : Below w.heap.size w w1 := by rw [hw1]; exact hB
    clear hw1 hB hok
    go_wp2_with fail
    go_ret2
    exact ⟨rfl, hB1⟩
  · have hne : ((n : Int) != (s.vars : Int)) = true := by
      rcases hbad with q | q
      · rw [hok] at q; cases q
      · simp; omega
    go_enter Try.func14, Try.ntmps14
    go_wp2_with fail
    refine (are_any _ s (h.below hB) _ [f] (SlInts.new1 w f)).mono ?_
    rintro e w1 ⟨rfl, hw1⟩
    rw [hok]
    have hS1 : StoreAt w1 s := by rw [hw1]; exact h.below hB
    have c0 := hS1.c0
    have hB1 : Below w.heap.size w w1 := by rw [hw1]; exact hB
    clear hw1 hB hok hbad
    go_wp2_with fail
    go_ret2
    exact ⟨rfl, hB1⟩

set_option maxHeartbeats 400000 in
theorem Value_nil (w : World) (f : Int) (v : Value) :
    Calls Try.prog 14 #[.pointer none, .int .i64 f, v] w fun e w' => e = .returned (.tuple #[.bool false, .int .i64 1]) ∧ Below w.heap.size w w' := by
  have hB : Below w.heap.size w (w.alloc (.cells #[.int .i64 f] 3)) := (Below.refl _ _).alloc (Nat.le_refl _) _
  go_enter Try.func14, Try.ntmps14
  go_wp2_with fail
  refine (are_nil _ _ f [] (SlInts.new1 w f)).mono ?_
  rintro e w1 ⟨rfl, hw1⟩
  have hB1 : Below w.heap.size w w1 := by rw [hw1]; exact hB
  clear hw1 hB
  go_wp2_with fail
  go_ret2
  exact ⟨rfl, hB1⟩

set_option maxHeartbeats 400000 in
theorem Witness_none (w : World) (s : St) (h : StoreAt w s) (f : Int) (hbad : okIn s.ns.length [f] = false ∨ f = 0) :
    Calls Try.prog 21 #[.pointer (some ⟨s.sb, 0, none⟩), .int .i64 f] w fun e w' => e = .returned (.tuple #[.slice none 0 0, .bool false]) ∧ Below w.heap.size w w' := by
  have hB : Below w.heap.size w (w.alloc (.cells #[.int .i64 f] 3)) := (Below.refl _ _).alloc (Nat.le_refl _) _
  cases hok : okIn s.ns.length [f]
  · go_enter Try.func21, Try.ntmps21
    go_wp2_with fail
    refine (are_any _ s (h.below hB) _ [f] (SlInts.new1 w f)).mono ?_
    rintro e w1 ⟨rfl, hw1⟩
    rw [hok]
    have hB1 : Below w.heap.size w w1 := by rw [hw1]; exact hB
    clear hw1 hB hok hbad
    go_wp2_with fail
    go_ret2
    exact ⟨rfl, hB1⟩
  · have hf : f = 0 := by
      rcases hbad with q | q
      · rw [hok] at q; cases q
      · exact q
    subst hf
    go_enter Try.func21, Try.ntmps21
    go_wp2_with fail
    refine (are_any _ s (h.below hB) _ [0] (SlInts.new1 w 0)).mono ?_
    rintro e w1 ⟨rfl, hw1⟩
    rw [hok]
    have hB1 : Below w.heap.size w w1 := by rw [hw1]; exact hB
    clear hw1 hB hok hbad
    go_wp2_with fail
    go_ret2
    exact ⟨rfl, hB1⟩

set_option maxHeartbeats 400000 in
theorem Witness_nil (w : World) (f : Int) :
    Calls Try.prog 21 #[.pointer none, .int .i64 f] w fun e w' => e = .returned (.tuple #[.slice none 0 0, .bool false]) ∧ Below w.heap.size w w' := by
  have hB : Below w.heap.size w (w.alloc (.cells #[.int .i64 f] 3)) := (Below.refl _ _).alloc (Nat.le_refl _) _
  go_enter Try.func21, Try.ntmps21
  go_wp2_with fail
  refine (are_nil _ _ f [] (SlInts.new1 w f)).mono ?_
  rintro e w1 ⟨rfl, hw1⟩
  have hB1 : Below w.heap.size w w1 := by rw [hw1]; exact hB
  clear hw1 hB
  go_wp2_with fail
  go_ret2
  exact ⟨rfl, hB1⟩

theorem infoBool : (Try.prog.info? 4).map (fun i => (i.zero, i.size, i.bytes)) = some (some (.bool false), 1, 1) := by kernel_rfl

theorem rowList_zero (vars : Nat) : (Dd.rowList vars 0).map Value.bool = List.replicate vars (.bool false) := by
  apply List.ext_getElem?
  intro j
  by_cases hj : j < vars <;> simp [Dd.rowList, Dd.rowEnv, hj]

theorem rowList_set {vars k k' t : Nat} (ht : t < vars) (h : ∀ i, i < vars → Dd.rowEnv vars k' i = if i = t then true else Dd.rowEnv vars k i) :
    ((Dd.rowList vars k).map Value.bool).set t (.bool true) = (Dd.rowList vars k').map Value.bool := by
  apply List.ext_getElem?
  intro j
  by_cases hj : j < vars
  · simp only [List.getElem?_set, Dd.rowList, List.getElem?_map, List.length_map, List.length_range, List.getElem?_range hj, Option.map_some, h j hj]
    by_cases e : t = j
    · subst e; simp [hj]
    · rw [if_neg e, if_neg (fun q => e q.symm)]
  · simp [List.getElem?_set, Dd.rowList, hj]

set_option maxHeartbeats 1000000 in
theorem Witness_any (w : World) (s : St) (h : StoreAt w s) (f : Nat) (hf : f < s.ns.length) (hf0 : f ≠ 0) :
    Calls Try.prog 21 #[.pointer (some ⟨s.sb, 0, none⟩), .int .i64 f] w fun e w' => ∃ g k, e = .returned (.tuple #[.slice (some ⟨g, 0, none⟩) s.vars s.vars, .bool true]) ∧
      w'.ownsRow w.heap.size 4 1 (.slice (some ⟨g, 0, none⟩) s.vars s.vars) s.vars ((Dd.rowList s.vars k).map Value.bool) ∧ Dd.Wit s.vars s.ns f k 1 ∧ Below w.heap.size w w' := by
  have hok : okIn s.ns.length [(f : Int)] = true := okIn_nat (l := [f]) (by simpa using hf)
  have hB : Below w.heap.size w (w.alloc (.cells #[.int .i64 f] 3)) := (Below.refl _ _).alloc (Nat.le_refl _) _
  have hne : ((f : Int) == 0) = false := by simp; omega
  have hsm := h.small
  obtain ⟨i0, hi, hz0, hz1, hz2⟩ := info_parts infoBool
  go_enter Try.func21, Try.ntmps21
  go_wp2_with fail
  refine (are_any _ s (h.below hB) _ [(f : Int)] (SlInts.new1 w f)).mono ?_
  rintro e w1 ⟨rfl, hw1⟩
  rw [hok]
  have hS1 : StoreAt w1 s := by rw [hw1]; exact h.below hB
  have hB1 : Below w.heap.size w w1 := by rw [hw1]; exact hB
  have c0 := hS1.c0
  clear hw1 hB hok
  go_wp2_with (at_make; refine wpList_make_full _ rfl _ _ 28 rfl w.heap.size 4 i0 (.bool false) 1 Try.underlying28 hi hz0 hz1 _ _ _ _ s.vars rfl rfl rfl rfl ?_ ?_ ?_ ?_; rotate_right; intro w2 hown2 hgrow2)
  case refine_1 => rw [hz2]; omega
  case refine_2 => unfold maxLen; omega
  case refine_3 => exact hB1.size
  have hS2 : StoreAt w2 s := hS1.kept fun k hk => hgrow2.block k (hS1.lt hk) (by simp)
  have hB2 : Below w.heap.size w w2 := hB1.grown hgrow2 hB1.size (by simp)
  have hgb : ¬ s.bl w1.heap.size := bl_new hS1 (Nat.le_refl _)
  have hgw : w.heap.size ≤ w1.heap.size := hB1.size
  have hown : w2.ownsRow w.heap.size 4 1 (.slice (some ⟨w1.heap.size, 0, none⟩) s.vars s.vars) s.vars ((Dd.rowList s.vars 0).map Value.bool) := by
    rw [rowList_zero]
    have := hown2
    simp only [Value.cells, Nat.mul_one, toList_madeCells_one] at this
    exact this
  generalize w1.heap.size = g at hown hgb hgw ⊢
  clear hown2 hgrow2 hS1 hB1 c0 hi hz0 hz1 hz2
  go_loopw [1] (fun x wr => ∃ f' k : Nat, x = .int .i64 f' ∧ Dd.Wit s.vars s.ns f k f' ∧ wr.ownsRow w.heap.size 4 1 (.slice (some ⟨g, 0, none⟩) s.vars s.vars) s.vars ((Dd.rowList s.vars k).map Value.bool) ∧ Below w.heap.size w wr ∧ StoreAt wr s) (fun x _ => (intOf x).toNat)
  case atStart => exact ⟨f, 0, rfl, Dd.Wit.start h.wf hf hf0, hown, hB2, hS2⟩
  case round =>
    obtain ⟨f', k, rfl, hW, hown, hBr, hSr⟩ := hrel
    have hlenr := hSr.len
    have hf' := hW.lt
    have hp' := hW.pos
    clear hS2 hB2
    by_cases h2 : 2 ≤ f'
    · obtain ⟨hLH, hL, hH, hT, _⟩ := h.wf.nd f' h2 hf'
      have c2 := hSr.c2
      have n0 := hSr.n0 hf'
      have n1 := hSr.n1 hf'
      have n2 := hSr.n2 hf'
      have hlt : s.nb < wr.heap.size := hSr.lt (Or.inr (Or.inl rfl))
      have hlt2 : s.sb < wr.heap.size := hSr.lt (Or.inl rfl)
      have hlt3 : g < wr.heap.size := (hown.lt g rfl).2
      have hBa : Below wr.heap.size wr (wr.alloc (.cells #[.int .i64 (Dd.T s.ns f'), .int .i64 (Dd.L s.ns f'), .int .i64 (Dd.H s.ns f')] 59)) := (Below.refl _ _).alloc (Nat.le_refl _) _
      by_cases hl0 : Dd.L s.ns f' = 0
      · have hl0' : ((Dd.L s.ns f' : Int) == 0) = true := by simp; omega
        have HW := hW.high h.wf h2 hl0
        have HB := hW.bit h.wf h2
        clear hl0
        go_wp2_with fail
        have hown3 := hown.alloc (.cells #[Value.int .i64 (Dd.T s.ns f'), Value.int .i64 (Dd.L s.ns f'), Value.int .i64 (Dd.H s.ns f')] 59)
        have hS3 := hSr.below hBa
        have hB3 := hBr.trans (hBa.mono hBr.size)
        have hkb := heap_alloc_new wr (.cells #[Value.int .i64 (Dd.T s.ns f'), Value.int .i64 (Dd.L s.ns f'), Value.int .i64 (Dd.H s.ns f')] 59)
        generalize wr.alloc (.cells #[Value.int .i64 (Dd.T s.ns f'), Value.int .i64 (Dd.L s.ns f'), Value.int .i64 (Dd.H s.ns f')] 59) = W3 at hown3 hS3 hB3 hkb ⊢
        have k0 : W3.cell? ⟨wr.heap.size, 0, none⟩ = some (.int .i64 (Dd.T s.ns f')) := by simp [World.cell?, hkb]
        have k2 : W3.cell? ⟨wr.heap.size, 2, none⟩ = some (.int .i64 (Dd.H s.ns f')) := by simp [World.cell?, hkb]
        have hg1 := hown3.cellAt (Dd.T s.ns f') (by omega)
        obtain ⟨vb, hvb⟩ : ∃ vb, ((Dd.rowList s.vars k).map Value.bool)[Dd.T s.ns f']? = some vb := by
          exact ⟨_, List.getElem?_eq_getElem (by simp [Dd.rowList]; exact hT)⟩
        rw [hvb] at hg1
        have hg2 := hown3.frozenAt (Dd.T s.ns f')
        have hst := hown3.stored (Dd.T s.ns f') (.bool true)
        rw [rowList_set hT HB.2] at hst
        clear hBa hkb c2 n0 n1 n2 hown hBr hSr hW hvb HB hown3
        go_region
        all_goals
          go_wp2_with fail
          go_roundw
          case rel => exact ⟨_, _, rfl, HW, hst.1, (hB3.setCell (p := ⟨g, Dd.T s.ns f', none⟩) hgw (.bool true)).drew, hS3.kept fun q hq => hst.2.block q (hS3.lt hq) (by simp; exact fun e => hgb (e ▸ hq))⟩
          case measure => simp [intOf]; omega
      · have hl0' : ((Dd.L s.ns f' : Int) == 0) = false := by simp; omega
        have HW := hW.low h.wf h2 hl0
        go_wp2_with fail
        go_roundw
        case rel => exact ⟨_, k, rfl, HW, hown.alloc _, hBr.trans (hBa.mono hBr.size), hSr.below hBa⟩
        case measure => simp [intOf]; omega
    · have hfe : f' = 1 := by omega
      subst hfe
      go_wp2_with fail
      go_ret2
      exact ⟨g, k, rfl, hown, hW, hBr⟩
end Go.Proofs.Ytehknmcoccikhaa
