/- Walks: node. -/
import Derived.Deep.RegionLaw
import Derived.Deep.AppendLies
import Derived.StillTailTactics
import Derived.Test.YtjnpkdpljmkpiaaGreatDoorJ18
namespace Go.Proofs.YtjnpkdpljmkpiaaGreatDoor
open Go.RowKit
set_option maxRecDepth 20000
theorem infoNode : (Tryz.prog.info? 108).map (fun i => (i.zero, i.size, i.bytes)) = some (some (.agg #[.int .i64 0, .int .i64 0, .int .i64 0]), 3, 24) := by kernel_rfl
structure Mid (w : World) (s : St) (W : World) (x : Dd.Nd) (g cap : Nat) : Prop where
  cells : W.heap[s.sb]? = some (.cells #[.int .i64 s.vars, .int .i64 s.budget, .slice (some ⟨g, 0, none⟩) (s.ns.length + 1) cap, .map (some s.mb), .map (some s.ib)] 113 (0, 0))
  own : W.ownsRow 0 108 3 (.slice (some ⟨g, 0, none⟩) (s.ns.length + 1) cap) (s.ns.length + 1) (flat (s.ns ++ [x]))
  numbers : MapIs tri vInt W s.mb (numbering s.ns)
  ites : MapIs tri vInt W s.ib s.ites
  gat : g = s.nb ∨ w.heap.size ≤ g
  fr : Fr s.bl w W
  key : W.heap[w.heap.size]? = some (.cells #[.int .i64 x.1, .int .i64 x.2.1, .int .i64 x.2.2] 108 (0, 0))
theorem Mid.mk' {w : World} {s : St} (h : StoreAt w s) {x : Dd.Nd} {o : Obj} {W w1 : World} {g cap : Nat}
    (hW : W.heap = ((w.alloc (.cells #[.int .i64 x.1, .int .i64 x.2.1, .int .i64 x.2.2] 108)).alloc o).heap) (hWt : W.tape = w.tape) (hWo : W.os = w.os) (hWp : W.output = w.output)
    (hown : w1.ownsRow 0 108 3 (.slice (some ⟨g, 0, none⟩) (s.ns.length + 1) cap) (s.ns.length + 1) (flat s.ns ++ [.int .i64 x.1, .int .i64 x.2.1, .int .i64 x.2.2]))
    (hgrow : W.grownBy w1 (some s.nb)) (hat : some s.nb = some g ∨ w.heap.size + 1 ≤ g) :
    Mid w s (w1.setCell ⟨s.sb, 2, none⟩ (.slice (some ⟨g, 0, none⟩) (s.ns.length + 1) cap)) x g cap := by
  have hsize : W.heap.size = w.heap.size + 2 := by rw [hW]; show ((w.heap.push _).push _).size = _; simp
  obtain ⟨a1, a2, a3, a4, a5, a6⟩ := h.apart
  have l1 := h.lt (Or.inl rfl)
  have l2 := h.lt (Or.inr (Or.inl rfl))
  have l3 := h.lt (Or.inr (Or.inr (Or.inl rfl)))
  have l4 := h.lt (Or.inr (Or.inr (Or.inr rfl)))
  have hold : ∀ k, k < w.heap.size → W.heap[k]? = w.heap[k]? := fun k hk => by
    rw [hW, Below.heap_alloc _ _ _ (by show k < (w.heap.push _).size; simp; omega), Below.heap_alloc _ _ _ hk]
  have hk1 : ∀ k, k < w.heap.size → k ≠ s.nb → w1.heap[k]? = w.heap[k]? := fun k hk hn => by
    rw [hgrow.block k (by omega) (by simpa using hn), hold k hk]
  have hk2 : ∀ k, k < w.heap.size → k ≠ s.nb → k ≠ s.sb → (w1.setCell ⟨s.sb, 2, none⟩ (.slice (some ⟨g, 0, none⟩) (s.ns.length + 1) cap)).heap[k]? = w.heap[k]? := fun k hk hn hs => by
    rw [Below.heap_setCell _ _ _ _ (by simpa using hs), hk1 k hk hn]
  have hgne : g ≠ s.sb := by
    rcases hat with e | e
    · simp at e; omega
    · omega
  refine ⟨?_, ?_, h.numbers.of_block (hk2 _ l3 (fun e => a4 e.symm) (fun e => a2 e.symm)), h.ites.of_block (hk2 _ l4 (fun e => a5 e.symm) (fun e => a3 e.symm)), ?_, ?_, ?_⟩
  · have := hk1 s.sb l1 a1
    rw [h.cells] at this
    simp only [World.setCell, Array.getElem?_modify, this, if_true]
    simp
  · rw [flat_append]
    have := ownsRow_setCell_other hown (a := ⟨s.sb, 2, none⟩) (by simp [Value.ownBlock]; exact hgne) (.slice (some ⟨g, 0, none⟩) (s.ns.length + 1) cap)
    simpa [flat] using this
  · rcases hat with e | e
    · simp at e; exact Or.inl e.symm
    · exact Or.inr (by omega)
  · refine ⟨?_, ?_, ?_, ?_, ?_⟩
    · exact hgrow.os.trans hWo
    · exact hgrow.tape.trans hWt
    · exact hgrow.output.trans hWp
    · have := hgrow.size; simp [World.setCell]; omega
    · intro k hk hn
      exact hk2 k hk (fun e => hn (Or.inr (Or.inl e))) (fun e => hn (Or.inl e))
  · rw [Below.heap_setCell _ _ _ _ (by simp; omega), hgrow.block _ (by omega) (by simp; omega), hW, Below.heap_alloc _ _ _ (by show _ < (w.heap.push _).size; simp)]
    exact heap_alloc_new w _
def St.pushed (s : St) (x : Dd.Nd) (g cap : Nat) : St := { s with nb := g, cap := cap, ns := s.ns ++ [x] }
theorem Mid.done {w W w3 : World} {s : St} {x : Dd.Nd} {g cap : Nat} (h : StoreAt w s) (M : Mid w s W x g cap) (hl : x.2.1 < s.ns.length) (hh : x.2.2 < s.ns.length) (ht : x.1 < s.vars) (htl : x.1 < Dd.T s.ns x.2.1) (hth : x.1 < Dd.T s.ns x.2.2)
    (e : x.2.1 ≠ x.2.2) (hq : look x (numbering s.ns) = none) (hroom : s.ns.length < s.budget)
    (hm : MapIs tri vInt w3 s.mb (putAt x s.ns.length (numbering s.ns))) (hg : W.grownBy w3 (some s.mb)) :
    StoreAt w3 (s.pushed x g cap) ∧ More w s (s.pushed x g cap) ∧ Fr s.bl w w3 := by
  obtain ⟨a1, a2, a3, a4, a5, a6⟩ := h.apart
  have l1 := h.lt (Or.inl rfl)
  have l2 := h.lt (Or.inr (Or.inl rfl))
  have l3 := h.lt (Or.inr (Or.inr (Or.inl rfl)))
  have l4 := h.lt (Or.inr (Or.inr (Or.inr rfl)))
  have hsz := M.fr.size
  have hgm : g ≠ s.sb ∧ g ≠ s.mb ∧ g ≠ s.ib := by
    rcases M.gat with e | e
    · subst e; exact ⟨fun q => a1 q.symm, a4, a5⟩
    · omega
  have W' : Dd.WF s.vars (s.ns ++ [x]) := Dd.WF_push h.wf hl hh e ht htl hth (numbering_none hq)
  have hk : ∀ k, k < W.heap.size → k ≠ s.mb → w3.heap[k]? = W.heap[k]? := fun k hk hn => hg.block k hk (by simpa using hn)
  refine ⟨⟨?_, ?_, ?_, ?_, ?_, W', h.small, ?_, h.most, ?_⟩, ⟨rfl, rfl, rfl, M.gat, rfl, rfl, [x], rfl⟩, ?_⟩
  · show w3.heap[s.sb]? = _
    rw [hk _ (by omega) a2, M.cells]; simp [St.pushed]
  · have := M.own.kept hg (Or.inr (by simp [Value.ownBlock]; exact hgm.2.1))
    simpa [St.pushed] using this
  · show MapIs tri vInt w3 s.mb (numbering (s.ns ++ [x]))
    rw [← numbering_push h.wf.two x hq]; exact hm
  · exact M.ites.of_block (hk _ M.ites.lt (fun q => a6 q.symm))
  · exact ⟨fun q => hgm.1 q.symm, a2, a3, hgm.2.1, hgm.2.2, a6⟩
  · simp [St.pushed]; omega
  · intro y n hy
    obtain ⟨b1, b2, b3, b4, b5, b6⟩ := h.memo y n hy
    simp only [St.pushed, List.length_append, List.length_singleton]
    rw [Dd.T_app b1, Dd.T_app b2, Dd.T_app b3, Dd.T_app b4]
    refine ⟨by omega, by omega, by omega, by omega, b5, fun env => ?_⟩
    show Dd.den (s.ns ++ [x]) env n = if Dd.den (s.ns ++ [x]) env y.1 = true then Dd.den (s.ns ++ [x]) env y.2.1 else Dd.den (s.ns ++ [x]) env y.2.2
    rw [Dd.den_app h.wf W' env _ b1, Dd.den_app h.wf W' env _ b2, Dd.den_app h.wf W' env _ b3, Dd.den_app h.wf W' env _ b4]
    exact b6 env
  · refine M.fr.trans (S' := s.bl) ⟨hg.os, hg.tape, hg.output, hg.size, fun k hk' hn => hk k hk' (fun q => hn (Or.inr (Or.inr (Or.inl q))))⟩ (fun _ _ q => q)
theorem step_push {ops : Array Oper} {o : Oper} {a : Act} {K : Act → World → Prop} {Q : Exit → Act → World → Prop} {E : Prop} {W : World} {s : St} {x : Dd.Nd}
    (hgd : o.guard = none) (p q : Operand) (ho : o.op = .call { callee := .builtin .append, args := #[p, q], argTypes := #[109, 109] })
    (hp : a.eval p = .slice (some ⟨s.nb, 0, none⟩) s.ns.length s.cap) (hq : a.eval q = .slice (some ⟨W.heap.size, 0, none⟩) 1 1)
    (hown : W.ownsRow 0 108 3 (.slice (some ⟨s.nb, 0, none⟩) s.ns.length s.cap) s.ns.length (flat s.ns)) (hlen : s.ns.length ≤ 10000)
    (hne : s.sb ≠ s.nb) (hlt : s.sb < W.heap.size) (hc2 : W.cell? ⟨s.sb, 2, none⟩ = some (.slice (some ⟨s.nb, 0, none⟩) s.ns.length s.cap)) (hf2 : W.frozen? ⟨s.sb, 2, none⟩ = false)
    (hK : ∀ g cap w1, w1.ownsRow 0 108 3 (.slice (some ⟨g, 0, none⟩) (s.ns.length + 1) cap) (s.ns.length + 1) (flat s.ns ++ [.int .i64 x.1, .int .i64 x.2.1, .int .i64 x.2.2]) →
      ((W.alloc (.cells #[.int .i64 x.1, .int .i64 x.2.1, .int .i64 x.2.2] 108)).drew).grownBy w1 (some s.nb) → (some s.nb = some g ∨ g = W.heap.size + 1) → w1.cell? ⟨s.sb, 2, none⟩ = some (.slice (some ⟨s.nb, 0, none⟩) s.ns.length s.cap) → w1.frozen? ⟨s.sb, 2, none⟩ = false → K (a.put o.dst (.slice (some ⟨g, 0, none⟩) (s.ns.length + 1) cap)) w1) :
    if Region.wanted o (yielded ops a.tmps) = true then Oper.wp Tryz.prog o a ((W.alloc (.cells #[.int .i64 x.1, .int .i64 x.2.1, .int .i64 x.2.2] 108)).drew) K Q else E := by
  obtain ⟨i0, hi, hz0, hz1, hz2⟩ := info_parts infoNode
  refine step_append_lies _ hgd p q 109 ho 0 108 i0 _ 3 24 Tryz.underlying109 hi hz0 hz1 hz2 rfl (by decide) _ _ _ hp ((hown.alloc _).drew) _ 1 1 [.int .i64 x.1, .int .i64 x.2.1, .int .i64 x.2.2] hq rfl
    (World.news_of_block (heap_alloc_new W _)) (by simp [Value.oneCell']) (by omega) (by unfold maxLen; omega) (by omega) (Nat.zero_le _) (W.heap.size + 1) (by show (W.heap.push _).size = _; simp) ?_
  intro g cap w1 h1 h2 h3 _
  have hb : w1.heap[s.sb]? = W.heap[s.sb]? := by
    rw [h2.block s.sb (by show s.sb < (W.heap.push _).size; simp; omega) (by simpa [Value.ownBlock] using hne)]
    exact Below.heap_alloc _ _ _ hlt
  exact hK g cap w1 h1 h2 h3 ((World.cell?_of_block hb).trans hc2) ((World.frozen?_of_block hb).trans hf2)
set_option maxHeartbeats 400000 in
theorem node_push (w : World) (s : St) (h : StoreAt w s) (t l g : Nat) (hl : l < s.ns.length) (hg : g < s.ns.length) (ht : t < s.vars) (htl : t < Dd.T s.ns l) (hth : t < Dd.T s.ns g)
    (e : l ≠ g) (hq : look (t, l, g) (numbering s.ns) = none) (hroom : s.ns.length < s.budget) :
    Calls Tryz.prog 99 #[.pointer (some ⟨s.sb, 0, none⟩), .agg #[.int .i64 t, .int .i64 l, .int .i64 g]] w fun e w' =>
      ∃ g' cap', e = .returned (.tuple #[.int .i64 s.ns.length, .int .i64 0]) ∧ StoreAt w' (s.pushed (t, l, g) g' cap') ∧ More w s (s.pushed (t, l, g) g' cap') ∧ Fr s.bl w w' := by
  have hlen := h.len
  have hmost := h.most
  have c1 := h.c1
  have c2 := h.c2
  have c3 := h.c3
  have hlt : s.sb < w.heap.size := h.lt (Or.inl rfl)
  have e' : ((l : Int) == (g : Int)) = false := by simp; omega
  have hlk : ∀ n, (Instr.lookup 110 (.map (some s.mb)) (.agg #[.int .i64 t, .int .i64 l, .int .i64 g]) true).run Tryz.prog ((w.alloc (.cells #[.int .i64 t, .int .i64 l, .int .i64 g] 108)).drewN n) = .ok (.tuple #[.int .i64 0, .bool false]) ((w.alloc (.cells #[.int .i64 t, .int .i64 l, .int .i64 g] 108)).drewN n) := by
    intro n
    have hm : MapIs tri vInt ((w.alloc (.cells #[.int .i64 t, .int .i64 l, .int .i64 g] 108)).drewN n) s.mb (numbering s.ns) := h.numbers.of_block (Below.heap_alloc _ _ _ h.numbers.lt)
    have := hm.lookup keyNode Tryz.underlying110 zeroInt (t, l, g)
    rw [hq] at this
    exact this
  go_enter Tryz.func99, Tryz.ntmps99
  go_wp2
  go_quiet (fail)
  go_wp2
  go_quiet (fail)
  go_wp2
  obtain ⟨i0, hi, hz0, hz1, hz2⟩ := info_parts infoNode
  generalize hW : ((w.alloc (Obj.cells #[Value.int IntKind.i64 ↑t, Value.int IntKind.i64 ↑l, Value.int IntKind.i64 ↑g] 108)).drewN _).drewN _ = W
  have hown : W.ownsRow 0 108 3 (.slice (some ⟨s.nb, 0, none⟩) s.ns.length s.cap) s.ns.length (flat s.ns) := by
    rw [← hW]; exact ((h.own.alloc _))
  have hc2 : W.cell? ⟨s.sb, 2, none⟩ = some (.slice (some ⟨s.nb, 0, none⟩) s.ns.length s.cap) := by
    rw [← hW]; exact (h.below ((Below.refl _ _).alloc (Nat.le_refl _) _)).c2
  have hf2 : W.frozen? ⟨s.sb, 2, none⟩ = false := by
    rw [← hW]; exact (h.below ((Below.refl _ _).alloc (Nat.le_refl _) _)).f2
  have hne : s.sb ≠ s.nb := h.apart.1
  have hlt' : s.sb < W.heap.size := by rw [← hW]; show s.sb < (w.heap.push _).size; simp; omega
  have hkb : W.heap[w.heap.size]? = some (.cells #[Value.int IntKind.i64 ↑t, Value.int IntKind.i64 ↑l, Value.int IntKind.i64 ↑g] 108 (0, 0)) := by rw [← hW]; exact heap_alloc_new w _
  have hk0 : W.cell? ⟨w.heap.size, 0, none⟩ = some (.int .i64 t) := by simp [World.cell?, hkb]
  have hk1 : W.cell? ⟨w.heap.size, 1, none⟩ = some (.int .i64 l) := by simp [World.cell?, hkb]
  have hk2 : W.cell? ⟨w.heap.size, 2, none⟩ = some (.int .i64 g) := by simp [World.cell?, hkb]
  have hsz : W.heap.size = w.heap.size + 1 := by rw [← hW]; show (w.heap.push _).size = _; simp
  have HW : Hid (((w.alloc (Obj.cells #[Value.int IntKind.i64 ↑t, Value.int IntKind.i64 ↑l, Value.int IntKind.i64 ↑g] 108)).drewN _).drewN _ = W) := hW
  clear hW c1 c2 c3 hlk
  have HS : Hid (W.heap.size = w.heap.size + 1) := hsz
  clear hsz
  go_region_law (refine step_push rfl _ _ rfl (x := (t, l, g)) rfl rfl hown hlen hne hlt' hc2 hf2 ?_; intro g' cap' w1 hown1 hgrow1 hat1 hc2' hf2')
  all_goals
    have M := Mid.mk' h (x := (t, l, g)) (by rw [← HW.out]; rfl) (by rw [← HW.out]; rfl) (by rw [← HW.out]; rfl) (by rw [← HW.out]; rfl) hown1 hgrow1 (hat1.imp id (fun q => by have := HS.out; omega))
    generalize hW2 : w1.setCell _ _ = W2 at M ⊢
    have d3 : W2.cell? ⟨s.sb, 3, none⟩ = some (.map (some s.mb)) := by simp [World.cell?, M.cells]
    have d2 : W2.cell? ⟨s.sb, 2, none⟩ = some (.slice (some ⟨g', 0, none⟩) (s.ns.length + 1) cap') := by simp [World.cell?, M.cells]
    have k0 : W2.cell? ⟨w.heap.size, 0, none⟩ = some (.int .i64 t) := by simp [World.cell?, M.key]
    have k1 : W2.cell? ⟨w.heap.size, 1, none⟩ = some (.int .i64 l) := by simp [World.cell?, M.key]
    have k2 : W2.cell? ⟨w.heap.size, 2, none⟩ = some (.int .i64 g) := by simp [World.cell?, M.key]
    clear hW2 hown1 hgrow1 hat1 hc2' hf2' hown hc2 hf2 hkb hk0 hk1 hk2 hlt' HW HS
    go_wp2
    go_still_tail 11, (by kernel_rfl)
    refine wpList_update_is rfl _ _ _ _ rfl keyNode Tryz.underlying110 M.numbers rfl (t, l, g) s.ns.length rfl (by simp [Act.eval, vInt]; exact IntWalk.i64_in _ (by omega)) ?_
    intro w3 hm3 hg3
    obtain ⟨hS, hM, hF⟩ := M.done h hl hg ht htl hth e hq hroom hm3 ⟨hg3.os, hg3.tape, hg3.output, hg3.size, hg3.block⟩
    clear d2 d3 k0 k1 k2
    have d2 : w3.cell? ⟨s.sb, 2, none⟩ = some (.slice (some ⟨g', 0, none⟩) (s.ns.length + 1) cap') := by have := hS.c2; simpa [St.pushed] using this
    go_wp2
    go_ret2
    exact ⟨g', cap', by simp, hS, hM, hF⟩
end Go.Proofs.YtjnpkdpljmkpiaaGreatDoor
