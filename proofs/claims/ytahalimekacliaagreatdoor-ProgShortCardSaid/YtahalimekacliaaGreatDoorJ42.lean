/- The reference's reader of expressions: an expression out of a text: the walk. live of the laws of expressions: the walk. From what the rows list to what is known of the program's variables; the frame of a tied row. -/
import Derived.Test.YtahalimekacliaaGreatDoorRows
import Derived.Test.YtahalimekacliaaGreatDoorTie
import Derived.Lib.LaidU8
import Derived.SliceStrings
import Derived.HandedShaped
import Derived.ProofKit
import Derived.OpenShut
import Derived.Lay
import Derived.SevenTiedAt
import Derived.Deep.Slices
import Derived.Test.YtahalimekacliaaGreatDoorJ17
import Derived.Test.YtahalimekacliaaGreatDoorJ34
set_option linter.unusedVariables false
set_option linter.unusedSimpArgs false
namespace Go.Proofs.YtahalimekacliaaGreatDoor
open Go.RowKit Go.Shelf Tx Px
theorem lexS_len : ∀ r, (Lx.lexS r).1.length ≤ r.length := by
  refine Lx.lex_ind ?_ ?_ ?_ ?_ ?_
  · rw [Lx.lexS_nil]; simp
  · intro c r hb ih; rw [Lx.lexS_blank hb]; simp; omega
  · intro u hn hu hc ih; rw [Lx.lexS_com hn hu hc]; have := Lx.after_len hu; omega
  · intro u e hn hu hc he; rw [Lx.lexS_err hn hu hc he]; simp
  · intro u k t hn hu hc ht hp hne ih
    rw [Lx.lexS_tok hn hu hc ht]
    have h2 := Lx.drop_len hp hne
    simp only [List.length_cons] at ih ⊢; omega
def RdS (s : ByteArray) (r : Except (Int × Int) Fo) : Prop := match (Lx.lexS s.data.toList).2 with
  | some (c, m) => r = .error ((c : Int), ((s.size - m : Nat) : Int))
  | none => RdR (toks s.size (Lx.lexS s.data.toList).1) r
theorem toks_len (s : ByteArray) : (toks s.size (Lx.lexS s.data.toList).1).length ≤ s.size := by
  simp only [toks, List.length_map]; have := lexS_len s.data.toList; rwa [size_toList] at this
theorem toks_is (s : ByteArray) : ∀ t ∈ toks s.size (Lx.lexS s.data.toList).1, TokOk t := toks_ok s.data.toList s.size
theorem RdS.all (s : ByteArray) : ∃ r, RdS s r := by
  unfold RdS
  split
  · exact ⟨_, rfl⟩
  · exact RdR.all (toks_is s)
end Go.Proofs.YtahalimekacliaaGreatDoor
namespace Go.Proofs.YtahalimekacliaaGreatDoor
open Go.RowKit Go.Shelf Tx Px
theorem flt_fields {P : Program} {t : TypeId} {fs : Array Field} (h : P.underlying t = some (.struct fs)) : P.fieldsOf t = fs := by unfold Program.fieldsOf; rw [h]
theorem fltPart0 (z u : Value) (w : World) : (part 23 #[z, u] 0).run Tryz.prog w = .ok z w := by kernel_rfl
theorem fltPart1 (z u : Value) (w : World) : (part 3 #[z, u] 1).run Tryz.prog w = .ok u w := by kernel_rfl
theorem fltStood : Tryz.prog.stoodInHeld 25 = false := by kernel_rfl
theorem eqFlt (a b c d : Int) (w : World) : (Op.equalIn 10000 25 (.agg #[.int .i64 a, .int .i64 b]) (.agg #[.int .i64 c, .int .i64 d])).run Tryz.prog w = .ok (a == c && b == d) w := by
  have hu := Tryz.underlying25
  have hf := flt_fields Tryz.underlying25
  have hi : ∀ (d : Nat) (p q : Int), (Op.equalIn (d + 1) 3 (.int .i64 p) (.int .i64 q)).run Tryz.prog w = .ok (p == q) w := fun d p q => run_equalIn_int w d _ _ _ p q Tryz.underlying3
  have hs : ∀ (d : Nat) (p q : Int), (Op.equalIn (d + 1) 23 (.int .i64 p) (.int .i64 q)).run Tryz.prog w = .ok (p == q) w := fun d p q => run_equalIn_int w d _ _ _ p q Tryz.underlying23
  rw [run_equalIn_agg w 9999 _ _ _ (by rw [hf]; exact hu) fltStood, hf]
  simp only [Op.eqFields]
  cases h1 : (a == c) <;> cases h2 : (b == d) <;> simp [hi, hs, fltPart0, fltPart1, h1, h2, Result.andThen]
end Go.Proofs.YtahalimekacliaaGreatDoor
namespace Go.Proofs.YtahalimekacliaaGreatDoor
open Go.ChangeShapes Go.WideShapes Go.ChangeAt Go.RowKit Go.Deep
theorem handed_shaped_and {H : Type} {enc : TypeId × Value → H} {a : Assume} {C : Checked} {os : Os} {f : FuncId} {fn : Func} {s : ChangeSpec} {conds : List PathCond} {apart fresh handsOn again : Bool} {X : World → Array Value → Prop}
    (hX : ∀ (w w' : World) (args : Array Value), w.heap = w'.heap → X w args → X w' args)
    (own : ownKnob C.prog.godebug = none) (started : os.Started) (noInit : C.prog.inits.idxOf? f = none) (hfn : C.prog.funcs[f]? = some fn)
    (witness : ∃ (w : World) (tape : Tape) (i : Input), w.os = os ∧ (w.forCall tape i).Shaped C.prog ∧ i.vars = [] ∧ Input.okWide C.prog (w.forCall tape i) .any w.heap.size f i ∧
      ((s.pre enc C.prog fn conds apart (w.forCall tape i).memory i.args ∧ X (w.forCall tape i).memory i.args) ∧ sizedMet enc C.prog fn (OpenSpec.ofChange s) apart (w.forCall tape i).memory i.args) ∧ a.holds C.prog (lone (Frame.enter C.prog f i.args .normal) [] (w.forCall tape i)))
    (contract : ∀ (W : World) (base : Nat) (args : Array Value) (ds gs : List (DataW H)) (before : List MemPlace),
      (∀ (j : Nat) t v, fn.params[j]? = some t → args[j]? = some v → Value.okWide C.prog W .any base t v) →
      DataW.Whole enc C.prog fn.params.toList s.vars apart W args.toList ds gs before → X W args → W.ShapedOpen C.prog →
      Calls C.prog f args W fun e W' => ∃ v, e = .returned v ∧ s.post enc C.prog fn apart fresh handsOn again W args v W') :
    ReturnsInHanded a C os f .any (fun w args => (s.pre enc C.prog fn conds apart w args ∧ X w args) ∧ sizedMet enc C.prog fn (OpenSpec.ofChange s) apart w args) (s.post enc C.prog fn apart fresh handsOn again) := by
  refine returnsInHanded_of_calls own started noInit witness ?_
  intro w tape i _ hsh _ hok hpre _
  obtain ⟨_, _, _, fn', hfn', _, _, _, _, hval⟩ := hok
  obtain rfl : fn' = fn := Option.some.inj (hfn'.symm.trans hfn)
  obtain ⟨⟨⟨ds, gs, before, hw, _⟩, hx⟩, _⟩ := hpre
  refine (contract (w.forCall tape i) w.heap.size i.args ds gs before hval (DataW.Whole.of_heap (w' := w.forCall tape i) (by rfl) hw) (hX _ _ _ (by rfl) hx) hsh).mono fun e W' h => ?_
  obtain ⟨v, he, hp⟩ := h
  subst he
  exact ChangeSpec.post_blind hp
theorem strs_map {H : Type} : ∀ {a : List ByteArray} {l : List (List UInt8)}, (strs a : List (DataW H)) = l.map (fun x => .lit (.string x)) → a.map (fun b => b.data.toList) = l
  | [], [], _ => rfl
  | [], _ :: _, h => by simp [strs] at h
  | _ :: _, [], h => by simp [strs] at h
  | b :: a, x :: l, h => by
    simp [strs] at h
    simp only [List.map_cons, h.1]
    rw [strs_map (H := H) (a := a) (l := l) (by simp [strs]; exact h.2)]
theorem spot_of_cell {w : World} {a : Addr} {v : Value} (h : w.cell? a = some v) : a.spot = none := by
  unfold World.cell? at h
  split at h
  · cases hs : a.spot
    · rfl
    · rw [hs] at h; simp at h
  · simp at h
theorem add_of_spot {a : Addr} (h : a.spot = none) (n : Nat) : a.add n = ⟨a.block, a.off + n, none⟩ := by
  unfold Addr.add
  split
  · subst_vars; cases a; simp_all
  · rfl
theorem strings_var {W : World} {n : String} {g t : Nat} {l : List (List UInt8)} (hr : Lib.VarReads Tryz.prog W n (.slice (l.map fun x => .lit (.string x)) [])) (hg : Tryz.prog.globalNamed n = some g) (ht : (Tryz.prog.globals[g]?).map (·.type) = some t) (hu : Tryz.prog.underlying t = some (.slice 9)) (hl : l ≠ []) :
    ∃ b o c, W.cell? ⟨g, 0, none⟩ = some (.slice (some ⟨b, o, none⟩) l.length c) ∧ ∀ j, j < l.length → W.cell? ⟨b, o + j, none⟩ = some (.string ⟨(l.getD j []).toArray⟩) := by
  obtain ⟨g', t', cs, fuel, p, hg', ht', hv, hd⟩ := hr
  obtain rfl := Option.some.inj (hg.symm.trans hg')
  obtain rfl := Option.some.inj (ht.symm.trans ht')
  rcases open_strings hu Tryz.underlying9 (by kernel_rfl) hd with ⟨_, h⟩ | ⟨a, len, cap, ss, hcs, _, hlc, _, hss, hx, hcell, _⟩
  · cases h
  · have hx1 := congrArg Prod.fst hx
    simp only [DataW.slice.injEq] at hx1
    obtain ⟨h1, h2⟩ := hx1
    have h3 := strs_map h1.symm
    have h4 : ss.drop len = [] := by
      cases hq : ss.drop len with
      | nil => rfl
      | cons x r => rw [hq] at h2; simp [strs] at h2
    have h5 : ss.take len = ss := by
      rw [List.drop_eq_nil_iff] at h4; exact List.take_of_length_le h4
    rw [h5] at h3
    have hlen : len = l.length := by
      have h6 : ss.length ≤ len := by rw [List.drop_eq_nil_iff] at h4; exact h4
      have h7 : ss.length = l.length := by rw [← h3]; simp
      simp at hss; omega
    subst hlen
    have hgv : W.cell? ⟨g, 0, none⟩ = some (.slice (some a) l.length cap) := by
      rw [World.var?_cell hg hv 0]
      have : cs.toList[0]? = some (.slice (some a) l.length cap) := by rw [hcs]; rfl
      simpa using this
    have hl0 : 0 < l.length := List.length_pos_iff.2 hl
    have hsl : ss.length = l.length := by rw [← h3]; simp
    have hs := spot_of_cell (hcell 0 (by omega))
    have hs0 : a.spot = none := by simpa [Addr.add] using hs
    have ha : a = ⟨a.block, a.off, none⟩ := by cases a; simp_all
    refine ⟨a.block, a.off, cap, by rw [← ha]; exact hgv, fun j hj => ?_⟩
    have := hcell j (by omega)
    rw [add_of_spot hs0] at this
    have h8 : (ss.map (fun b => b.data.toList))[j]? = l[j]? := by rw [h3]
    rw [List.getElem?_map] at h8
    have e1 : ss[j]? = some (ss.getD j ByteArray.empty) := by rw [List.getD_eq_getElem?_getD, List.getElem?_eq_getElem (by omega)]; rfl
    have e2 : l[j]? = some (l.getD j []) := by rw [List.getD_eq_getElem?_getD, List.getElem?_eq_getElem hj]; rfl
    rw [e1, e2] at h8
    have h9 : (ss.getD j ByteArray.empty).data.toList = l.getD j [] := Option.some.inj h8
    have h10 : ss.getD j ByteArray.empty = ⟨(l.getD j []).toArray⟩ := bytes_ext h9
    rw [this, h10]
theorem glob_words : Tryz.prog.globalNamed "bailment/lex.words" = some 1 := by kernel_rfl
theorem glob_signs : Tryz.prog.globalNamed "bailment/lex.signs" = some 0 := by kernel_rfl
noncomputable def rowLaid : List (String × DataW Unit) := Rows.progBlankRow.laid
theorem laid_words : (Rows.laid_bailment_lex_words : DataW Unit) = .slice (Lx.words.map fun x => .lit (.string x)) [] := by kernel_rfl
theorem laid_signs : (Rows.laid_bailment_lex_signs : DataW Unit) = .slice (Lx.signs.map fun x => .lit (.string x)) [] := by kernel_rfl
theorem gl_of {W : World} (hL : laidMetH Tryz.prog rowLaid W) (hs : W.ShapedOpen Tryz.prog) : Gl W := by
  rw [MakeChecks.laidMetH_plain _ _ _ (by kernel_rfl)] at hL
  have r1 : Lib.VarReads Tryz.prog W "bailment/lex.words" Rows.laid_bailment_lex_words := Lib.laidMet.reads hL (by unfold rowLaid Rows.progBlankRow; simp)
  have r2 : Lib.VarReads Tryz.prog W "bailment/lex.signs" Rows.laid_bailment_lex_signs := Lib.laidMet.reads hL (by unfold rowLaid Rows.progBlankRow; simp)
  rw [laid_words] at r1
  rw [laid_signs] at r2
  obtain ⟨b, o, c, h1, h2⟩ := strings_var r1 glob_words (by kernel_rfl) Tryz.underlying82 (by decide)
  obtain ⟨b', o', c', h3, h4⟩ := strings_var r2 glob_signs (by kernel_rfl) Tryz.underlying82 (by decide)
  exact ⟨⟨b, o, c, h1, h2⟩, ⟨b', o', c', h3, h4⟩, hs⟩
end Go.Proofs.YtahalimekacliaaGreatDoor
