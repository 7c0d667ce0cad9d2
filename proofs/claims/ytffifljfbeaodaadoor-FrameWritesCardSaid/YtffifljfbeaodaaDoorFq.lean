/- From what the rows list to what is known of the program's variables; the frame of a tied row; the arguments. -/
import Derived.Test.YtffifljfbeaodaaDoorFo
import Derived.Test.YtffifljfbeaodaaDoorRows
import Derived.Test.YtffifljfbeaodaaDoorTie
import Derived.Lib.LaidU8
import Derived.Lib.LaidTab
import Derived.LaidLaws
import Derived.HandedShaped
import Derived.ProofKit
import Derived.OpenShut
import Derived.Lay
import Derived.SevenTiedAt
import Derived.Deep.Slices
import Derived.Deep.Matrix
import Derived.ChangeSlices
namespace Go.Proofs.YtffifljfbeaodaaDoor
open Go.ChangeShapes Go.WideShapes Go.ChangeAt Go.RowKit Go.Deep

/-- The frame of a row that lists variables: the world's shape is known as well. -/
theorem handed_shaped_and {H : Type} {enc : TypeId × Value → H} {a : Assume} {C : Checked} {os : Os} {f : FuncId} {fn : Func} {s : ChangeSpec} {conds : List PathCond} {apart fresh handsOn again : Bool} {X : World → Array Value → Prop}
    (hX : ∀ (w w' : World) (args : Array Value), w.heap = w'.heap → X w args → X w' args)
    (own : ownKnob C.prog.godebug = none) (started : os.Started) (noInit : C.prog.inits.idxOf? f = none) (hfn : C.prog.funcs[f]? = some fn)
    (witness : ∃ (w : World) (tape : Tape) (i : Input), w.os = os ∧ (w.forCall tape i).Shaped C.prog ∧ i.vars = [] ∧ Input.okWide C.prog (w.forCall tape i) .any w.heap.size f i ∧
      ((s.pre enc C.prog fn conds apart (w.forCall tape i).memory i.args ∧ X (w.forCall tape i).memory i.args) ∧ sizedMet enc C.prog fn (OpenSpec.ofChange s) apart (w.forCall tape i).memory i.args) ∧ a.holds C.prog (lone (Frame.enter C.prog f i.args .normal) [] (w.forCall tape i)))
    (contract : ∀ (W : World) (base : Nat) (args : Array Value) (ds gs : List (DataW H)) (before : List MemPlace),
      (∀ (j : Nat) t v, fn.params[j]? = some t → args[j]? = some v → Value.okWide C.prog W .any base t v) →
      DataW.Whole enc C.prog fn.params.toList s.vars apart W args.toList ds gs before → X W args → W.ShapedOpen C.prog →
      Calls C.prog f args W fun e W' => ∃ v, e = .returned v ∧ s.post enc C.prog fn apart fresh handsOn again W args v W') :
    ReturnsInHanded a C os f .any (fun w args => (s.pre enc C.prog fn conds apart w args ∧ X w args) ∧ sizedMet enc C.prog fn (OpenSpec.ofChange s) apart w args) (s.post enc C.prog fn apart fresh handsOn again) := by
  refine returnsInHanded_of_calls own started noInit witness ?_
  intro w tape i _ hsh _ hok hpre _
  obtain ⟨_, _, _, fn', hfn', _, _, _, _, hval⟩ := hok
  obtain rfl : fn' = fn := Option.some.inj (hfn'.symm.trans hfn)
  obtain ⟨⟨⟨ds, gs, before, hw, _⟩, hx⟩, _⟩ := hpre
  refine (contract (w.forCall tape i) w.heap.size i.args ds gs before hval (DataW.Whole.of_heap (w' := w.forCall tape i) (by rfl) hw) (hX _ _ _ (by rfl) hx) hsh).mono fun e W' h => ?_
  obtain ⟨v, he, hp⟩ := h
  subst he
  exact ChangeSpec.post_blind hp

theorem spot_of_cell {w : World} {a : Addr} {v : Value} (h : w.cell? a = some v) : a.spot = none := by
  unfold World.cell? at h
  split at h
  · cases hs : a.spot
    · rfl
    · rw [hs] at h; simp at h
  · simp at h
theorem add_of_spot {a : Addr} (h : a.spot = none) (n : Nat) : a.add n = ⟨a.block, a.off + n, none⟩ := by
  unfold Addr.add
  split
  · subst_vars; cases a; simp_all
  · rfl


/-- What the rows list. -/
noncomputable def rowLaid : List (String × DataW Unit) := Rows.frameReadsRow.laid
theorem laid_pow : (Rows.laid_internal_strconv_uint64pow10 : DataW Unit) = Lib.tabData .u64 Lib.pow10Tab := by kernel_rfl
theorem tab_of_reads {W : World} (h : Lib.VarReads Tryd.prog W "internal/strconv.uint64pow10" (Lib.tabData .u64 Lib.pow10Tab)) : Lib.TabIs Tryd.prog W "internal/strconv.uint64pow10" .u64 Lib.pow10Tab := by
  obtain ⟨g', t', cs, fuel, p, hg', ht', hvar, hd⟩ := h
  obtain rfl := Option.some.inj ((show Tryd.prog.globalNamed "internal/strconv.uint64pow10" = some 3 by kernel_rfl).symm.trans hg')
  obtain rfl := Option.some.inj ((show (Tryd.prog.globals[3]?).map (·.type) = some 101 by kernel_rfl).symm.trans ht')
  unfold Lib.TabIs
  have := Lib.cells_of_tab Tryd.underlying101 Tryd.underlying85 (by kernel_rfl) (by kernel_rfl) hd
  rw [hvar, ← this]
theorem err_of_reads {W : World} {n : String} {g : Nat} {nm : String} {d : DataW Unit} (hg : Tryd.prog.globalNamed n = some g) (ht : (Tryd.prog.globals[g]?).map (·.type) = some 51) (h : Lib.VarReads Tryd.prog W n (.iface nm d)) : ∃ tp p, W.var? Tryd.prog n = some #[.iface tp p] := by
  obtain ⟨g', t', cs, fuel, p, hg', ht', hvar, hd⟩ := h
  obtain rfl := Option.some.inj (hg.symm.trans hg')
  obtain rfl := Option.some.inj (ht.symm.trans ht')
  obtain ⟨f1, u, v, hcs, _⟩ := iface_of_trod Tryd.underlying51 hd
  refine ⟨u, v, ?_⟩
  rw [hvar]
  congr 1
  rw [← Array.toList_inj]; exact hcs
theorem gl_of {W : World} (hL : laidMetH Tryd.prog rowLaid W) (hs : W.ShapedOpen Tryd.prog) : Gl W := by
  rw [MakeChecks.laidMetH_plain _ _ _ (by kernel_rfl)] at hL
  have r1 : Lib.VarReads Tryd.prog W "internal/strconv.uint64pow10" Rows.laid_internal_strconv_uint64pow10 := Lib.laidMet.reads hL (by unfold rowLaid Rows.frameReadsRow; simp)
  have r2 : Lib.VarReads Tryd.prog W "strconv.ErrSyntax" Rows.laid_strconv_ErrSyntax := Lib.laidMet.reads hL (by unfold rowLaid Rows.frameReadsRow; simp)
  have r3 : Lib.VarReads Tryd.prog W "strconv.ErrRange" Rows.laid_strconv_ErrRange := Lib.laidMet.reads hL (by unfold rowLaid Rows.frameReadsRow; simp)
  rw [laid_pow] at r1
  unfold Rows.laid_strconv_ErrSyntax at r2
  unfold Rows.laid_strconv_ErrRange at r3
  exact ⟨tab_of_reads r1, err_of_reads (g := 1) (by kernel_rfl) (by kernel_rfl) r2, err_of_reads (g := 2) (by kernel_rfl) (by kernel_rfl) r3, hs⟩

/-- A slice of numbers that came in. -/
theorem sl_of {W : World} {a : Addr} {len cap : Nat} {zs : List Int} (hlc : len ≤ cap) (hz : zs.length = cap) (hcell : ∀ i, i < zs.length → W.cell? (a.add i) = some (.int .i64 (zs.getD i 0))) : Sl intC 1 W (.slice (some a) len cap) (zs.take len) := by
  by_cases h0 : len = 0
  · subst h0; exact Or.inl ⟨by simp, _, _, rfl⟩
  · have hc0 := hcell 0 (by omega)
    have hs := spot_of_cell hc0
    have hs0 : a.spot = none := by simpa [Addr.add] using hs
    have ha : a = ⟨a.block, a.off, none⟩ := by cases a; simp_all
    have hl : (zs.take len).length = len := by rw [List.length_take]; omega
    refine Or.inr ⟨a.block, a.off, cap, by rw [hl, ← ha], by omega, ?_, fun i x hi j u hu => ?_⟩
    · have := World.block_lt_of_cell? W _ hc0
      rw [add_of_spot hs0] at this; exact this
    · cases j with
      | succ j => simp [intC] at hu
      | zero =>
        simp [intC] at hu; subst hu
        have hil : i < len := by have := (List.getElem?_eq_some_iff.1 hi).1; omega
        have := hcell i (by omega)
        rw [add_of_spot hs0] at this
        rw [show a.off + i * 1 + 0 = a.off + i by omega, this]
        rw [List.getElem?_take, if_pos hil] at hi
        rw [List.getD_eq_getElem?_getD, hi]; rfl
set_option maxRecDepth 10000 in
theorem ints_in {H : Type} {enc : TypeId × Value → H} {W : World} {v : Value} {d : DataW H} {p : List MemPlace} {r : Reach} {b : Nat} (hval : Value.okWide Tryd.prog W r b 22 v) (h : DataW.Trod enc Tryd.prog W 0 (fun _ => true) true 22 v d p) : ∃ l : List Int, Sl intC 1 W v l ∧ l.length ≤ maxLen := by
  obtain ⟨fuel, h⟩ := h
  obtain ⟨a0, l0, c0, rfl⟩ := okWide_slice Tryd.underlying22 hval
  rcases open_ints Tryd.underlying22 Tryd.underlying3 (by kernel_rfl) h with ⟨hcs, _⟩ | ⟨a, len, cap, zs, hcs, _, hlc, hm, hz, _, hcell, _⟩
  · simp [Value.cells] at hcs
    obtain ⟨rfl, rfl, rfl⟩ := hcs
    exact ⟨[], Sl.nil_, by simp⟩
  · simp [Value.cells] at hcs
    obtain ⟨rfl, rfl, rfl⟩ := hcs
    simp only [if_true] at hz
    exact ⟨zs.take l0, sl_of hlc hz hcell, by rw [List.length_take]; omega⟩
set_option maxRecDepth 10000 in
theorem rows_in {H : Type} {enc : TypeId × Value → H} {W : World} {v : Value} {d : DataW H} {p : List MemPlace} {r : Reach} {b : Nat} (hval : Value.okWide Tryd.prog W r b 24 v) (h : DataW.Trod enc Tryd.prog W 0 (fun _ => true) true 24 v d p) : ∃ l : List (List Int), Rs W v l ∧ l.length ≤ maxLen := by
  obtain ⟨fuel, h⟩ := h
  obtain ⟨a0, l0, c0, rfl⟩ := okWide_slice Tryd.underlying24 hval
  rcases open_int_rows Tryd.underlying24 Tryd.underlying22 Tryd.underlying3 (by kernel_rfl) (by kernel_rfl) h with ⟨hcs, _⟩ | ⟨a, len, cap, A, L, C, Z, hcs, _, hlc, hm, _, hx⟩
  · simp [Value.cells] at hcs
    obtain ⟨rfl, rfl, rfl⟩ := hcs
    exact ⟨[], Rs.nil_ _, by simp⟩
  · simp [Value.cells] at hcs
    obtain ⟨rfl, rfl, rfl⟩ := hcs
    refine ⟨(List.range l0).map (fun i => (Z i).take (L i)), ⟨(List.range l0).map (fun i => .slice (A i) (L i) (C i)), ?_, by simp, fun i u r hu hr => ?_⟩, by simp; omega⟩
    · by_cases h0 : l0 = 0
      · subst h0; exact Or.inl ⟨by simp, _, _, rfl⟩
      · have hc0 := (hx 0 (by omega)).1
        have hs := spot_of_cell hc0
        have hs0 : a.spot = none := by simpa [Addr.add] using hs
        have ha : a = ⟨a.block, a.off, none⟩ := by cases a; simp_all
        refine Or.inr ⟨a.block, a.off, c0, by simp [← ha], by simpa using hlc, ?_, fun i x hi j u hu => ?_⟩
        · have := World.block_lt_of_cell? W _ hc0
          rw [add_of_spot hs0] at this; exact this
        · cases j with
          | succ j => simp [oneC] at hu
          | zero =>
            simp [oneC] at hu; subst hu
            rw [List.getElem?_map] at hi
            have hil : i < l0 := by
              rcases Nat.lt_or_ge i l0 with h | h
              · exact h
              · rw [List.getElem?_eq_none (by simpa using h)] at hi; simp at hi
            rw [List.getElem?_range hil] at hi
            simp at hi; subst hi
            have := (hx i (by omega)).1
            rw [add_of_spot hs0] at this
            rw [show a.off + i * 1 + 0 = a.off + i by omega]; exact this
    · rw [List.getElem?_map] at hu hr
      have hil : i < l0 := by
        rcases Nat.lt_or_ge i l0 with h | h
        · exact h
        · rw [List.getElem?_eq_none (by simpa using h)] at hu; simp at hu
      rw [List.getElem?_range hil] at hu hr
      simp at hu hr
      subst hu hr
      obtain ⟨_, h1, h2, h3, _, h4, h5⟩ := hx i (by omega)
      cases hA : A i with
      | none =>
        have hc := h4 hA
        have hL : L i = 0 := by omega
        exact Or.inl ⟨by rw [hL]; simp, none, C i, by rw [hL]⟩
      | some a' =>
        exact sl_of h1 h3 (fun c hc => (h5 a' hA).2 c (by omega))
end Go.Proofs.YtffifljfbeaodaaDoor
