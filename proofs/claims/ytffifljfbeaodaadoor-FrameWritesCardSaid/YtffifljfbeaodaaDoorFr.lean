/- A region that draws its order, in a round: as outside one, where no operation defers. -/
import Derived.Test.YtffifljfbeaodaaDoorFb
import Derived.Test.YtffifljfbeaodaaDoorSl
import Derived.OrdersIn
import Derived.Maps.AppendAt
namespace Go.Proofs.YtffifljfbeaodaaDoor
open Go.RowKit Go.Shelf

theorem upon_round {l n : Nat} {P : Program} {o : Oper} {a : Act} {K : Act → World → Prop} {Q : Exit → Act → World → Prop} {r : Result Next} (h : o.uponIn Fence.wide n P a K Q r) : o.uponIn (Fence.wide.inRound l) n P a K Q r := by
  cases r with
  | ok x w' => cases x <;> exact h
  | halt x w' => exact h
theorem op_round {l n : Nat} {P : Program} {ops : Array Oper} {Q : Exit → Act → World → Prop} (hnd : ∀ (i : Nat) (o : Oper), ops[i]? = some o → ∀ c, o.op ≠ .defer c) {i : Nat} {K K' : Act → World → Prop} (hK : ∀ a w, K a w → K' a w) {a : Act} {w : World}
    (h : wpOpIn Fence.wide n P ops Q i K a w) : wpOpIn (Fence.wide.inRound l) n P ops Q i K' a w := by
  have h := wpOpIn_mono hK h
  unfold wpOpIn at h ⊢
  split
  · rename_i ho; rw [ho] at h; exact h
  · rename_i o ho
    simp only [ho] at h
    split
    · rename_i hw
      simp only [hw, if_true] at h
      unfold Oper.wpIn at h ⊢
      refine ⟨h.1, ?_⟩
      have h2 := h.2
      rw [Oper.semAt_eq _ _ _ (hnd i o ho)] at h2 ⊢
      exact upon_round h2
    · rename_i hw
      simp only [hw] at h
      exact h
theorem any_round {l n : Nat} {P : Program} {ops : Array Oper} {Q : Exit → Act → World → Prop} (hnd : ∀ (i : Nat) (o : Oper), ops[i]? = some o → ∀ c, o.op ≠ .defer c) : ∀ (fuel : Nat) (listed : Array Bool) (a : Act) (w : World),
    wpAnyIn Fence.wide n P .any ops Q fuel listed a w → wpAnyIn (Fence.wide.inRound l) n P .any ops Q fuel listed a w
  | 0, _, _, _, h => h
  | fuel + 1, _, _, _, h => ⟨h.1, fun i hi => op_round hnd (fun a w h => any_round hnd fuel _ a w h) (h.2 i hi)⟩
def noDefer (ops : Array Oper) : Bool := ops.toList.all (fun o => match o.op with | .defer _ => false | _ => true)
theorem noDefer_spec {ops : Array Oper} (h : noDefer ops = true) : ∀ (i : Nat) (o : Oper), ops[i]? = some o → ∀ c, o.op ≠ .defer c := by
  intro i o ho c hc
  unfold noDefer at h
  rw [List.all_eq_true] at h
  have := h o (Array.mem_toList_iff.2 (Array.mem_of_getElem? ho))
  rw [hc] at this; cases this
/-- A region that draws its order, in a round. -/
theorem region_round {l n id : Nat} {P : Program} {ops : Array Oper} {Q : Exit → Act → World → Prop} {a : Act} {w : World} (hm : P.follows .mixedOrders = true) (hnd : noDefer ops = true)
    (h : wpAnyIn Fence.wide n P .any ops Q ops.size (Array.replicate ops.size false) a { w with drawn := w.drawn + 1 }) : (Code.region id ops true).wpIn (Fence.wide.inRound l) n P Q a w :=
  wpIn_region_any hm (any_round (noDefer_spec hnd) _ _ _ _ h)
/-- append of one element, inside a fence. -/
theorem wpListIn_app {F : Fence} {m : Nat} {P : Program} {w : World} {ops : Array Oper} {rest : List Oper} {o : Oper} {a : Act} {Q : Exit → Act → World → Prop} {t e size bytes : Nat} (R : RowTy P t e size bytes) (hgd : o.guard = none) (s x : Operand)
    (ho : o.op = .call { callee := .builtin .append, args := #[s, x], argTypes := #[t, t] })
    (base : Nat) (v : Value) (n : Nat) (xs : List Value) (hs : a.eval s = v) (hown : w.ownsRow base e size v n xs)
    (ad : Addr) (c : Nat) (news : List Value) (hx : a.eval x = .slice (some ad) 1 c) (hl : news.length = size) (hnews : ∀ j u, news[j]? = some u → w.cell? (ad.add j) = some u) (h1 : ∀ u ∈ news, u.oneCell' = true)
    (hn : (n + 1) * (bytes + 1) ≤ 140737488355328) (hbase : base ≤ w.heap.size)
    (h : ∀ g cap w', w'.ownsRow base e size (.slice (some ⟨g, 0, none⟩) (n + 1) cap) (n + 1) (xs ++ news) → w.grownBy w' v.ownBlock → wpListIn F m P ops Q rest (a.put o.dst (.slice (some ⟨g, 0, none⟩) (n + 1) cap)) w') : wpListIn F m P ops Q (o :: rest) a w := by
  obtain ⟨i, z, hi, hz, hsize, hby, hzs⟩ := R.ex
  have hb : (n + 1) * bytes ≤ 140737488355328 := Nat.le_trans (Nat.mul_le_mul_left _ (by omega)) hn
  have hm : n + 1 ≤ maxLen := by
    have : (n + 1) * 1 ≤ (n + 1) * (bytes + 1) := Nat.mul_le_mul_left _ (by omega)
    unfold maxLen; omega
  refine wpListIn_append_own w hgd s x t ho base e i z size bytes R.ht hi hz hsize hby hzs R.pos v n xs hs hown ad 1 c news hx (by rw [hl]; omega) hnews h1 hm hb hbase ?_
  intro v' w' ho' hg _
  obtain ⟨g, cap, rfl⟩ := ownsRow_succ ho'
  exact h g cap w' ho' hg
end Go.Proofs.YtffifljfbeaodaaDoor
