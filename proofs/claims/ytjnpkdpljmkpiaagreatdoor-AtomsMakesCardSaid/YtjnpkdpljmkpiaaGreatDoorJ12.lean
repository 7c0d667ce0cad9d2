/- The reference: a node moved; an expression behind another; nodes in order: the walks. -/
import Derived.Test.YtjnpkdpljmkpiaaGreatDoorJ7
import Derived.Test.YtjnpkdpljmkpiaaGreatDoorJ11
namespace Go.Proofs.YtjnpkdpljmkpiaaGreatDoor
open Go.RowKit Go.Shelf Tx
set_option maxRecDepth 100000 in
set_option maxHeartbeats 2000000 in
theorem move_any (x : Nd) (d : Nat) (hs : smallN 1000000000 x) (hd : d ≤ 1000000) (w : World) : Calls Tryz.prog 95 #[ndV x, .int .i64 d] w fun e w' => ∃ (o a b c n : Int) (s : ByteArray), e = .returned (.agg #[.int .i64 o, .int .i64 a, .int .i64 b, .int .i64 c, .int .i64 n, .string s]) ∧ Hid (mv d x = ⟨o, a, b, c, n, s⟩) ∧ Below w.heap.size w w' := by
  obtain ⟨op, a, b, c, n, s⟩ := x
  obtain ⟨s0, s1, s2⟩ := hs
  simp only [] at s0 s1 s2
  have HS : Hid (∀ A Z : Array Value, Below w.heap.size w ((w.alloc (.cells A 42)).alloc (.cells Z 42))) := fun A Z => ((Below.refl _ _).alloc (Nat.le_refl _) _).alloc (by simp) _
  have hd0 : (0 : Int) ≤ (d : Int) := by omega
  have hd1 : (d : Int) ≤ 1000000 := by omega
  unfold ndV
  simp only []
  by_cases p1 : 0 ≤ a <;> by_cases p2 : 0 ≤ b <;> by_cases p3 : 0 ≤ c
  all_goals
    have HM : Hid (mv d ⟨op, a, b, c, n, s⟩ = ⟨op, if 0 ≤ a then a + d else a, if 0 ≤ b then b + d else b, if 0 ≤ c then c + d else c, n, s⟩) := rfl
    simp only [p1, p2, p3, if_true, if_false] at HM
    go_enter Tryz.func95, Tryz.ntmps95
    go_wp2_with fail
    refine bodyPost_ret (v := .agg #[.int .i64 op, .int .i64 _, .int .i64 _, .int .i64 _, .int .i64 n, .string s]) (by simp [results, Tryz.results95, go_sem]) rfl ⟨_, _, _, _, _, _, rfl, HM, HS.out _ _⟩
set_option maxRecDepth 100000 in
set_option maxHeartbeats 8000000 in
theorem rbehind_any (E : List Nd) (hE : E.length ≤ 1000000) (hS : ∀ x ∈ E, smallN 1000000000 x) (a : Option Addr) (c : Nat) (base : Nat) (w0 : World)
    (HX : Hid (∀ W, Below base w0 W → ∀ i x, E[i]? = some x → ∃ b o, a = some ⟨b, o, none⟩ ∧ ∀ j u, (ndL x)[j]? = some u → W.cell? ⟨b, o + i * 6 + j, none⟩ = some u))
    (O : List Nd) (vo : Value) (w : World) (hB : Below base w0 w) (hbw : base ≤ w.heap.size) (hO : OwnE base w vo O) (hOl : O.length ≤ 1000000) :
    Calls Tryz.prog 54 #[vo, .slice a E.length c] w fun r w' => ∃ v, r = .returned v ∧ OwnE base w' v (behind O E) ∧ Gr w vo w' v ∧ Below base w0 w' := by
  obtain ⟨oa, oc, rfl, hoc⟩ := hO.form
  obtain ⟨d, hd⟩ : ∃ d, d = O.length := ⟨_, rfl⟩
  obtain ⟨n, hn⟩ : ∃ n, n = E.length := ⟨_, rfl⟩
  rw [← hd] at hO hoc hOl ⊢
  rw [← hn] at hE ⊢
  have HD := Lib.hid hd
  have HN := Lib.hid hn
  have HS := Lib.hid hS
  have HO0 := Lib.hid hO
  clear hd hn hS hO
  go_enter Tryz.func54, Tryz.ntmps54
  go_wp2_with fail
  go_loopw [0, 6] (fun ov i wr => ∃ (t : Nat), i = .int .i64 t ∧ t ≤ n ∧ OwnE base wr ov (O ++ (E.take t).map (mv d)) ∧ Gr w (.slice oa d oc) wr ov ∧ Below base w0 wr) (fun _ i _ => n - (intOf i).toNat)
  case atStart => exact ⟨0, rfl, Nat.zero_le _, by simpa using HO0.out, Gr.refl _ _, hB⟩
  case round =>
    obtain ⟨t, rfl, ht, hO, hG, hBr⟩ := hrel
    obtain ⟨ol, hol⟩ : ∃ ol, ol = (O ++ (E.take t).map (mv d)).length := ⟨_, rfl⟩
    have hol2 : ol = d + t := by rw [hol, List.length_append, List.length_map, List.length_take, ← HD.out]; have := HN.out; omega
    obtain ⟨va, vc, hva, hvc⟩ := hO.form
    rw [← hol] at hva hvc
    subst hva
    have HOL := Lib.hid hol
    have HOL2 := Lib.hid hol2
    clear hol hol2
    by_cases hlt : t < n
    · obtain ⟨x, hx⟩ : ∃ x, E[t]? = some x := ⟨_, List.getElem?_eq_getElem (by have := HN.out; omega)⟩
      obtain ⟨b, o, rfl, hcell⟩ := HX.out wr hBr t x hx
      obtain ⟨c0, c1, c2, c3, c4, c5⟩ := nd_cells hcell
      have hmove := move_any x d (HS.out x (List.mem_of_getElem? hx)) hOl wr
      have HXX := Lib.hid hx
      have htn : (t : Int) < (n : Int) := by omega
      have ht0 : (0 : Int) ≤ (t : Int) := by omega
      have hsz := hG.size
      have HG := Lib.hid hG
      have HOO := Lib.hid hO
      clear hx hcell hG hO
      go_wp2_with fail
      refine hmove.mono ?_
      rintro r w2 ⟨o', a', b', c', n', s', rfl, hy, hb2⟩
      have hO2 := HOO.out.below hb2
      have hG2 := HG.out.trans (Gr.of_below (.slice va ol vc) hb2)
      have hB2 := hBr.trans (hb2.mono (by omega))
      have HG2 := Lib.hid hG2
      have hsz2 : base ≤ w2.heap.size := by have := hG2.size; omega
      have hO3 : w2.ownsRow base 42 6 (.slice va ol vc) ol ((O ++ (E.take t).map (mv d)).flatMap ndL) := by have := hO2; unfold OwnE at this; rw [← HOL.out] at this; exact this
      have hol3 : ol ≤ 2000000 := by have := HOL2.out; omega
      obtain ⟨Ot, hOt⟩ : ∃ Ot, Ot = O ++ (E.take t).map (mv d) := ⟨_, rfl⟩
      rw [← hOt] at hO3
      have HOt := Lib.hid hOt
      clear hmove hO2 hG2 c0 c1 c2 c3 c4 c5 hOt
      go_wp2_with (at_builtin; refine wpList_app rowNd rfl _ _ rfl base _ _ _ rfl (hO3.alloc _) ⟨w2.heap.size, 0, none⟩ 1 [.int .i64 o', .int .i64 a', .int .i64 b', .int .i64 c', .int .i64 n', .string s'] rfl rfl ?c1 ?c2 ?c3 ?c4 (w2.heap.size + 1) ?c5 ?_)
      case c1 => exact World.news_of_block (heap_alloc_new w2 _)
      case c2 => simp [Value.oneCell']
      case c3 => omega
      case c4 => simp; omega
      case c5 => simp
      intro g cap w4 hown hgrow hat hlt2 hcap
      have hgr : Gr w2 (.slice va ol vc) w4 (.slice (some ⟨g, 0, none⟩) (ol + 1) cap) := gr_append hgrow hat
      have HF1 := Lib.hid (HG2.out.trans hgr)
      have hB4 : Below base w0 w4 := Gr.below hB2 hgr hsz2 (fun g' hg' => (World.ownsRow.lt hO3 g' hg').1)
      have HOW : Hid (OwnE base w4 (.slice (some ⟨g, 0, none⟩) (ol + 1) cap) (O ++ (E.take (t + 1)).map (mv d))) := by
        show OwnE _ _ _ _
        unfold OwnE
        rw [take_at HXX.out, List.map_append, ← List.append_assoc, List.length_append, List.flatMap_append, ← HOL.out, ← HOt.out, List.map_cons, List.map_nil, hy.out]
        exact hown
      clear hown hgrow hat hgr hO3
      go_wp2_with fail
      go_roundw
      case rel => exact ⟨t + 1, by go_num, by omega, HOW.out, HF1.out, hB4⟩
      case measure => simp [intOf]; omega
    · have hte : t = n := by omega
      subst hte
      have HFIN : Hid (OwnE base wr (.slice va ol vc) (behind O E)) := by
        show OwnE _ _ _ _
        unfold behind
        rw [← HD.out]
        rw [List.take_of_length_le (by have := HN.out; omega)] at hO
        exact hO
      have HG := Lib.hid hG
      clear hO hG
      go_wp2_with fail
      go_ret
      exact ⟨_, rfl, HFIN.out, HG.out, hBr⟩
end Go.Proofs.YtjnpkdpljmkpiaaGreatDoor
