/- Walks: node whole; ite. -/
import Derived.Test.YtehknmcoccikhaaWb
namespace Go.Proofs.Ytehknmcoccikhaa
open Go.RowKit

/-- What making a node leaves. -/
def NodePost (w : World) (s : St) (t l g : Nat) (e : Ending) (w' : World) : Prop :=
  ∃ (r er : Nat) (s' : St), e = .returned (.tuple #[.int .i64 r, .int .i64 er]) ∧ StoreAt w' s' ∧ More w s s' ∧ Fr s.bl w w' ∧ s'.ns.length ≤ s.ns.length + 1 ∧ r < s'.ns.length ∧
    ((er = 0 ∧ t ≤ Dd.T s'.ns r ∧ ∀ env, Dd.den s'.ns env r = if env t then Dd.den s.ns env g else Dd.den s.ns env l) ∨ (er = 18 ∧ r = 0 ∧ s.ns.length = s.budget))

set_option maxHeartbeats 400000 in
theorem node_same (w : World) (s : St) (h : StoreAt w s) (t l : Nat) :
    Calls Try.prog 34 #[.pointer (some ⟨s.sb, 0, none⟩), .agg #[.int .i64 t, .int .i64 l, .int .i64 l]] w fun e w' => e = .returned (.tuple #[.int .i64 l, .int .i64 0]) ∧ Below w.heap.size w w' := by
  go_enter Try.func34, Try.ntmps34
  go_wp2
  go_ret2
  exact ⟨rfl, (Below.refl _ _).alloc (Nat.le_refl _) _⟩

set_option maxHeartbeats 400000 in
theorem node_hit (w : World) (s : St) (h : StoreAt w s) (t l g f : Nat) (e : l ≠ g) (hq : look (t, l, g) (numbering s.ns) = some f) :
    Calls Try.prog 34 #[.pointer (some ⟨s.sb, 0, none⟩), .agg #[.int .i64 t, .int .i64 l, .int .i64 g]] w fun e w' => e = .returned (.tuple #[.int .i64 f, .int .i64 0]) ∧ Below w.heap.size w w' := by
  have c3 := h.c3
  have hlt : s.sb < w.heap.size := h.lt (Or.inl rfl)
  have e' : ((l : Int) == (g : Int)) = false := by simp; omega
  have hlk : ∀ n, (Instr.lookup 61 (.map (some s.mb)) (.agg #[.int .i64 t, .int .i64 l, .int .i64 g]) true).run Try.prog ((w.alloc (.cells #[.int .i64 t, .int .i64 l, .int .i64 g] 59)).drewN n) = .ok (.tuple #[.int .i64 f, .bool true]) ((w.alloc (.cells #[.int .i64 t, .int .i64 l, .int .i64 g] 59)).drewN n) := by
    intro n
    have hm : MapIs tri vInt ((w.alloc (.cells #[.int .i64 t, .int .i64 l, .int .i64 g] 59)).drewN n) s.mb (numbering s.ns) := h.numbers.of_block (Below.heap_alloc _ _ _ h.numbers.lt)
    have := hm.lookup keyNode Try.underlying61 zeroInt (t, l, g)
    rw [hq] at this
    exact this
  go_enter Try.func34, Try.ntmps34
  go_wp2
  go_quiet (fail)
  go_wp2
  go_ret2
  exact ⟨rfl, below_drewN ((Below.refl _ _).alloc (Nat.le_refl _) _) _⟩

set_option maxHeartbeats 400000 in
theorem node_full (w : World) (s : St) (h : StoreAt w s) (t l g : Nat) (e : l ≠ g) (hq : look (t, l, g) (numbering s.ns) = none) (hroom : s.ns.length = s.budget) :
    Calls Try.prog 34 #[.pointer (some ⟨s.sb, 0, none⟩), .agg #[.int .i64 t, .int .i64 l, .int .i64 g]] w fun e w' => e = .returned (.tuple #[.int .i64 0, .int .i64 18]) ∧ Below w.heap.size w w' := by
  have c1 := h.c1
  have c2 := h.c2
  have c3 := h.c3
  have hlt : s.sb < w.heap.size := h.lt (Or.inl rfl)
  have e' : ((l : Int) == (g : Int)) = false := by simp; omega
  have e2 : ((s.ns.length : Int) == (s.budget : Int)) = true := by simp; omega
  have hlk : ∀ n, (Instr.lookup 61 (.map (some s.mb)) (.agg #[.int .i64 t, .int .i64 l, .int .i64 g]) true).run Try.prog ((w.alloc (.cells #[.int .i64 t, .int .i64 l, .int .i64 g] 59)).drewN n) = .ok (.tuple #[.int .i64 0, .bool false]) ((w.alloc (.cells #[.int .i64 t, .int .i64 l, .int .i64 g] 59)).drewN n) := by
    intro n
    have hm : MapIs tri vInt ((w.alloc (.cells #[.int .i64 t, .int .i64 l, .int .i64 g] 59)).drewN n) s.mb (numbering s.ns) := h.numbers.of_block (Below.heap_alloc _ _ _ h.numbers.lt)
    have := hm.lookup keyNode Try.underlying61 zeroInt (t, l, g)
    rw [hq] at this
    exact this
  clear hroom
  go_enter Try.func34, Try.ntmps34
  go_wp2
  go_quiet (fail)
  go_wp2
  go_quiet (fail)
  go_wp2
  go_ret2
  exact ⟨rfl, below_drewN (below_drewN ((Below.refl _ _).alloc (Nat.le_refl _) _) _) _⟩

theorem T_last (ns : List Dd.Nd) (x : Dd.Nd) : Dd.T (ns ++ [x]) ns.length = x.1 ∧ Dd.L (ns ++ [x]) ns.length = x.2.1 ∧ Dd.H (ns ++ [x]) ns.length = x.2.2 := by
  simp [Dd.T, Dd.L, Dd.H, List.getD]

theorem node_any (w : World) (s : St) (h : StoreAt w s) (t l g : Nat) (hl : l < s.ns.length) (hg : g < s.ns.length) (ht : t < s.vars) (htl : t < Dd.T s.ns l) (hth : t < Dd.T s.ns g) :
    Calls Try.prog 34 #[.pointer (some ⟨s.sb, 0, none⟩), .agg #[.int .i64 t, .int .i64 l, .int .i64 g]] w (NodePost w s t l g) := by
  by_cases e : l = g
  · subst e
    refine (node_same w s h t l).mono ?_
    rintro _ w' ⟨rfl, hb⟩
    exact ⟨l, 0, s, rfl, h.below hb, More.refl _ _, Fr.of_below hb _, by omega, hl, Or.inl ⟨rfl, by omega, fun env => by simp⟩⟩
  · rcases hq : look (t, l, g) (numbering s.ns) with _ | f
    · by_cases hroom : s.ns.length = s.budget
      · refine (node_full w s h t l g e hq hroom).mono ?_
        rintro _ w' ⟨rfl, hb⟩
        exact ⟨0, 18, s, rfl, h.below hb, More.refl _ _, Fr.of_below hb _, by omega, by omega, Or.inr ⟨rfl, rfl, hroom⟩⟩
      · refine (node_push w s h t l g hl hg ht htl hth e hq (by have := h.room; omega)).mono ?_
        rintro _ w' ⟨g', cap', rfl, hS, hM, hF⟩
        have hW := hS.wf
        have e1 := T_last s.ns (t, l, g)
        refine ⟨s.ns.length, 0, _, rfl, hS, hM, hF, by simp [St.pushed], by simp [St.pushed], Or.inl ⟨rfl, ?_, fun env => ?_⟩⟩
        · show t ≤ Dd.T (s.ns ++ [(t, l, g)]) s.ns.length
          rw [e1.1]; exact Nat.le_refl _
        · rw [Dd.den_step hW env h.wf.two (by simp [St.pushed])]
          rw [← hM.den h hS env hl, ← hM.den h hS env hg]
          show (if env (Dd.T (s.ns ++ [(t, l, g)]) s.ns.length) then _ else _) = _
          rw [e1.1]
          show (if env t then Dd.den _ env (Dd.H (s.ns ++ [(t, l, g)]) s.ns.length) else Dd.den _ env (Dd.L (s.ns ++ [(t, l, g)]) s.ns.length)) = _
          rw [e1.2.1, e1.2.2]
    · obtain ⟨h2, hf, hgd⟩ := numbering_some hq
      refine (node_hit w s h t l g f e hq).mono ?_
      rintro _ w' ⟨rfl, hb⟩
      have eT : Dd.T s.ns f = t := by unfold Dd.T; rw [hgd]
      have eL : Dd.L s.ns f = l := by unfold Dd.L; rw [hgd]
      have eH : Dd.H s.ns f = g := by unfold Dd.H; rw [hgd]
      exact ⟨f, 0, s, rfl, h.below hb, More.refl _ _, Fr.of_below hb _, by omega, hf, Or.inl ⟨rfl, by omega, fun env => by rw [Dd.den_step h.wf env h2 hf, eT, eL, eH]⟩⟩
end Go.Proofs.Ytehknmcoccikhaa
