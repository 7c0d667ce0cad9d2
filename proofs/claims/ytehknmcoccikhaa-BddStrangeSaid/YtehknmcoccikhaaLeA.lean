/- The law BddStrange, whatever its argument: its statement. -/
import Derived.Test.YtehknmcoccikhaaRows
import Derived.Test.YtehknmcoccikhaaLc
import Derived.Test.YtehknmcoccikhaaLd
import Derived.Test.YtehknmcoccikhaaLe
import Derived.ProofKit
import Derived.OpenShut
import Derived.Lib.SmallJoins
import Derived.Deep.Slices
namespace Go.Proofs.Ytehknmcoccikhaa
open Go.ChangeShapes Go.WideShapes Go.ChangeAt Go.RowKit Go.Deep Go.Joins

theorem strange_any (vars n i : Int) (ad : Option Addr) (len cap : Nat) (w : World) :
    Calls Try.prog 4 #[.agg #[.int .i64 vars, .int .i64 n, .int .i64 i, .slice ad len cap]] w fun e w' => e = .returned (.bool true) ∧ Below w.heap.size w w' := by
  by_cases hl : 100 < len
  · exact strange_long vars n i ad len cap w hl
  · by_cases hv : vars < 0 ∨ 30 < vars
    · exact strange_nil vars n i ad len cap w (by omega) hv
    · obtain ⟨v, rfl⟩ : ∃ v : Nat, vars = v := ⟨vars.toNat, by omega⟩
      by_cases hn : n < 0 ∨ 2 ≤ n
      · exact strange_bad n i v ad len cap w (by omega) (by omega) hn
      · obtain ⟨m, rfl⟩ : ∃ m : Nat, n = m := ⟨n.toNat, by omega⟩
        exact strange_low m i v ad len cap w (by omega) (by omega) (by omega)

theorem own : ownKnob Try.prog.godebug = none := by kernel_rfl
theorem laidOut : laidOutB Try.prog = true := by kernel_rfl
theorem cellsStrange : Try.prog.cellsOf 42 = 4 := by kernel_rfl

set_option maxRecDepth 100000 in
theorem strange_lifted (os : Os) (started : os.Started) (H : Type) (enc : TypeId × Value → H) :
    ReturnsInHanded {} Try.checked os 4 .any (Rows.bddStrangeSpec.pre6 enc Try.prog Try.f4 Rows.bddStrangeRow.domain false) (Rows.bddStrangeSpec.post enc Try.prog Try.f4 false true false false) := by
  refine returnsInHanded_of_change (C := Try.checked) own started (by kernel_rfl) Try.func4
    (ChangeSpec.witness6 (enc := enc) (C := Try.checked) false ⟨#[], #[.agg #[.int .i64 0, .int .i64 0, .int .i64 0, .slice none 0 0]], []⟩ 8 (by kernel_rfl) (by kernel_rfl) (by kernel_rfl) (by kernel_rfl)) ?_
  intro W base args ds gs before hval0 hW hcnd _
  have hval : ∀ (j : Nat) t v, Try.f4.params[j]? = some t → args[j]? = some v → Value.okWide Try.prog W .any base t v := hval0
  have hW' := hW
  obtain ⟨p, q, hA0, hV, rfl, hfz, hnd⟩ := hW
  have hA : DataW.TrodAll enc Try.prog W 0 (fun _ => true) true Try.f4.params.toList args.toList ds p := hA0
  rw [Try.params4] at hA hval
  obtain ⟨v0, vs0, d0, ds0, p0, q0, hargs, rfl, rfl, h0, r0⟩ := trodAll_cons hA
  obtain ⟨rfl, rfl, rfl⟩ := trodAll_nil r0
  obtain rfl : args = #[v0] := by cases args; simp_all
  obtain ⟨rfl, rfl⟩ := trodVars_none hV
  have k0 := h0
  have lt0 : ∀ x ∈ p0, x.block < W.heap.size := by obtain ⟨m, hm⟩ := k0; exact DataW.trod_lt m _ _ _ hm
  obtain ⟨a, b, c, ad, len, cap, rfl⟩ : ∃ (a b c : Int) (ad : Option Addr) (len cap : Nat), v0 = .agg #[.int .i64 a, .int .i64 b, .int .i64 c, .slice ad len cap] := by
    obtain ⟨c0, c1, c2, c3, y0, y1, y2, y3, m, rfl, _, _, hy0, hy1, hy2, hy3⟩ := open_agg4 Try.underlying42 (by kernel_rfl) cellsStrange (hval 0 42 v0 rfl rfl) h0
    obtain ⟨a, e0, _, wa⟩ := DataW.trod_int Try.underlying3 hy0
    obtain ⟨b, e1, _, wb⟩ := DataW.trod_int Try.underlying3 hy1
    obtain ⟨c, e2, _, wc⟩ := DataW.trod_int Try.underlying3 hy2
    simp at e0 e1 e2
    subst e0 e1 e2
    rcases open_slice Try.underlying28 hy3 with ⟨hcs, _⟩ | ⟨ad, len, cap, _, _, _, _, hcs, _⟩
    · simp at hcs; subst hcs; exact ⟨a, b, c, none, 0, 0, rfl⟩
    · simp at hcs; subst hcs; exact ⟨a, b, c, some ad, len, cap, rfl⟩
  clear hA0 hval0
  refine (strange_any a b c ad len cap W).mono fun e W' ⟨he, bel⟩ => ?_
  subst he
  exact ⟨_, rfl, _, _, _, [], _, [], hW', trodAll_mk1 (shut_bool Try.underlying4 _), (trodAll_cons_mk (Below.trod laidOut (by kernel_rfl) (of_decide_eq_true (by kernel_rfl)) k0 bel lt0) trodAll_mk0), rfl, bel.frame _, fun h => by cases h⟩

theorem strange_holds : Rows.BddStrangeSaid :=
  OpenClaim.holds_of_wide 4 Try.f4 rfl rfl rfl rfl rfl rfl rfl ⟨rfl, rfl, rfl, rfl, rfl⟩ rfl rfl rfl rfl rfl (by kernel_rfl) Try.func4 (by kernel_rfl)
    (of_decide_eq_true (by kernel_rfl)) (by unfold Func.isWrapper; first | (rw [if_pos (by decide +kernel)]; kernel_rfl) | (rw [if_neg (by decide +kernel)]; exact ⟨rfl, rfl⟩))
    (fun os started H enc _ => strange_lifted os started H enc)
#print axioms strange_holds
end Go.Proofs.Ytehknmcoccikhaa
