/- Small functions of the code: the variables that are laid; words; a number's word. -/
import Derived.Test.YtffifljfbeaodaaDoorFu
namespace Go.Proofs.YtffifljfbeaodaaDoor
open Go.RowKit Go.Shelf

structure Gl (W : World) : Prop where
  tab : Lib.TabIs Tryd.prog W "internal/strconv.uint64pow10" .u64 Lib.pow10Tab
  syn : ∃ tp p, W.var? Tryd.prog "strconv.ErrSyntax" = some #[.iface tp p]
  ran : ∃ tp p, W.var? Tryd.prog "strconv.ErrRange" = some #[.iface tp p]
  shaped : W.ShapedOpen Tryd.prog
theorem var_below {P : Program} {n : String} {g : Nat} {v : Array Value} {w w' : World} (hg : P.globalNamed n = some g) (h : w.var? P n = some v) (hb : Below w.heap.size w w') : w'.var? P n = some v := by
  unfold World.var? at h ⊢
  rw [hg] at h ⊢
  simp only [Option.bind_some] at h ⊢
  have hlt : g < w.heap.size := by
    rcases Nat.lt_or_ge g w.heap.size with h' | h'
    · exact h'
    · rw [Array.getElem?_eq_none h'] at h; cases h
  rw [hb.block g hlt]
  exact h
theorem Gl.below {w w' : World} (h : Gl w) (hb : Below w.heap.size w w') : Gl w' := by
  obtain ⟨a, b, h1⟩ := h.syn
  obtain ⟨c, d, h2⟩ := h.ran
  exact ⟨var_below (show Tryd.prog.globalNamed "internal/strconv.uint64pow10" = some 3 by kernel_rfl) h.tab hb,
    ⟨a, b, var_below (show Tryd.prog.globalNamed "strconv.ErrSyntax" = some 1 by kernel_rfl) h1 hb⟩,
    ⟨c, d, var_below (show Tryd.prog.globalNamed "strconv.ErrRange" = some 2 by kernel_rfl) h2 hb⟩,
    h.shaped.keptBut (hb.frame (fun _ => False)) (fun _ q => q.elim)⟩

theorem truth_any (b : Bool) (w : World) : Calls Tryd.prog 34 #[.bool b] w fun e w' => e = .returned (.int .i64 (if b then 1 else 0)) ∧ w' = w := by
  cases b
  all_goals
    go_enter Tryd.func34, Tryd.ntmps34
    go_wp2_with fail
    go_ret
    exact ⟨rfl, rfl⟩

theorem wrap_fits {n : Int} (h1 : -9223372036854775808 ≤ n) (h2 : n ≤ 9223372036854775807) : (wrap64 (RowKit.wrap32 n) == n) = Fx.fits n := by
  unfold Fx.fits wrap64 RowKit.wrap32
  rw [Bool.eq_iff_iff]
  simp only [beq_iff_eq, Bool.and_eq_true, decide_eq_true_eq]
  omega
theorem Fits_any (n : Int) (h1 : -9223372036854775808 ≤ n) (h2 : n ≤ 9223372036854775807) (w : World) : Calls Tryd.prog 22 #[.int .i64 n] w fun e w' => e = .returned (.bool (Fx.fits n)) ∧ w' = w := by
  go_enter Tryd.func22, Tryd.ntmps22
  go_wp2_with fail
  go_ret
  exact ⟨ret_bool (wrap_fits h1 h2), rfl⟩
theorem rFits_any (n : Int) (w : World) : Calls Tryd.prog 41 #[.int .i64 n] w fun e w' => e = .returned (.bool (Fx.fits n)) ∧ w' = w := by
  go_enter Tryd.func41, Tryd.ntmps41
  go_wp2_with fail
  all_goals
    go_ret
    refine ⟨ret_bool ?_, rfl⟩
    unfold Fx.fits
    simp_all <;> omega
theorem empty_any (s : ByteArray) (w : World) : Calls Tryd.prog 33 #[.string s] w fun e w' => e = .returned (.bool (s.data.toList.isEmpty)) ∧ w' = w := by
  go_enter Tryd.func33, Tryd.ntmps33
  go_wp2_with fail
  go_ret
  exact ⟨ret_bool (by rw [Lib.toList_data]), rfl⟩
theorem fmtBool0 (b : Bool) (w : World) : Calls Tryd.prog 40 #[.bool b] w fun e w' => e = .returned (.string ⟨(if b then Fx.tru else Fx.fal).toArray⟩) ∧ w' = w := by
  cases b
  all_goals
    go_enter Tryd.func40, Tryd.ntmps40
    go_wp2_with fail
    go_ret
    exact ⟨rfl, rfl⟩
theorem fmtBool (b : Bool) (w : World) : Calls Tryd.prog 25 #[.bool b] w fun e w' => e = .returned (.string ⟨(if b then Fx.tru else Fx.fal).toArray⟩) ∧ w' = w := by
  have hc := fmtBool0 b w
  revert hc
  generalize (⟨(if b then Fx.tru else Fx.fal).toArray⟩ : ByteArray) = t
  intro hc
  go_enter Tryd.func25, Tryd.ntmps25
  go_wp2_with fail
  refine hc.mono ?_
  rintro e w1 ⟨rfl, rfl⟩
  go_wp2_with fail
  go_ret
  exact ⟨rfl, rfl⟩
end Go.Proofs.YtffifljfbeaodaaDoor
