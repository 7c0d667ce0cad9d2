/- The laws' frame of the lexer: answers as plain functions; live. -/
import Derived.Test.YthnofhobhkcpfaaDoorKl
namespace Go.Proofs.YthnofhobhkcpfaaDoor
open Go.RowKit Go.Shelf

def lexToks (s : ByteArray) : List Tok := match (Lx.lexS s.data.toList).2 with
  | none => toks s.size (Lx.lexS s.data.toList).1
  | some _ => []
def lexEr (s : ByteArray) : Nat := match (Lx.lexS s.data.toList).2 with
  | none => 0
  | some p => p.1
def lexAt (s : ByteArray) : Nat := match (Lx.lexS s.data.toList).2 with
  | none => 0
  | some p => s.size - p.2

/-- What Lex answers, for a caller. -/
def LexRes (s : ByteArray) (w : World) (e : Ending) (w' : World) : Prop :=
  ∃ (v : Value) (er at_ : Int), e = .returned (.tuple #[v, .agg #[.int .i64 er, .int .i64 at_]]) ∧ Below w.heap.size w w' ∧ Sl tokC 3 w' v (lexToks s) ∧ er = lexEr s ∧ at_ = lexAt s

theorem LexPost.res {s : ByteArray} {w : World} {e : Ending} {w' : World} (h : LexPost s w e w') : LexRes s w e w' := by
  obtain ⟨v, er, at_, he, hb, hor⟩ := h
  refine ⟨v, er, at_, he, hb, ?_⟩
  rcases hor with ⟨h1, h2, h3, h4⟩ | ⟨c, m, h0, h1, h2, h3, h4⟩
  · have e1 : lexToks s = toks s.size (Lx.lexS s.data.toList).1 := by unfold lexToks; rw [h3]
    have e2 : lexEr s = 0 := by unfold lexEr; rw [h3]
    have e3 : lexAt s = 0 := by unfold lexAt; rw [h3]
    exact ⟨by rw [e1]; exact Sl.own tokC_len h4 (by simp [toks]), by rw [e2]; exact h1, by rw [e3]; exact h2⟩
  · have e1 : lexToks s = [] := by unfold lexToks; rw [h3]
    have e2 : lexEr s = c := by unfold lexEr; rw [h3]
    have e3 : lexAt s = s.size - m := by unfold lexAt; rw [h3]
    exact ⟨by rw [e1, h4]; exact Sl.nil_, by rw [e2]; exact h1, by rw [e3]; exact h2⟩

theorem Lex_res (s : ByteArray) (hs : s.size ≤ 100000) (w : World) (G : Gl w) : Calls Tryd.prog 10 #[.string s] w (LexRes s w) := (Lex_any s hs w G).mono fun _ _ h => h.res
theorem rLex_res (s : ByteArray) (hs : s.size ≤ 100000) (w : World) : Calls Tryd.prog 11 #[.string s] w (LexRes s w) := (rLex_any s hs w).mono fun _ _ h => h.res

theorem lexToks_len (s : ByteArray) : (lexToks s).length ≤ s.size := by
  unfold lexToks
  split
  · simp only [toks, List.length_map]; have := Lx.lexS_count s.data.toList; rwa [size_toList] at this
  · simp
theorem texts_toks (N : Nat) (l : List Lx.R) : texts (toks N l) = l.map (·.t) := by
  simp [texts, toks, tok, Function.comp_def]
theorem lexToks_room (s : ByteArray) : Lx.room (texts (lexToks s)) ≤ 2 * s.size := by
  unfold lexToks
  split
  · rw [texts_toks]; have := Lx.lexS_room s.data.toList; rwa [size_toList] at this
  · simp [texts, Lx.room]

/-- A slice that a literal lays. -/
theorem Sl.lit {α : Type} {enc : α → List Value} {k : Nat} (hk : ∀ x, (enc x).length = k) {w : World} {b c T : Nat} {fr : Nat × Nat} {l : List α} (h : w.heap[b]? = some (.cells (l.flatMap enc).toArray T fr)) (hc : l.length ≤ c) : Sl enc k w (.slice (some ⟨b, 0, none⟩) l.length c) l :=
  Or.inr ⟨b, 0, c, rfl, hc, (Array.getElem?_eq_some_iff.1 h).1, fun i x hi j u hu => by
    rw [cell_of_row w b (0 + i * k + j) _ T fr h, Nat.zero_add]
    have := flatMap_cell hk l i x hi j u hu
    simpa using this⟩

/-! ### faults told apart -/
theorem faultPart0 (z u : Value) (w : World) : (part 24 #[z, u] 0).run Tryd.prog w = .ok z w := by kernel_rfl
theorem faultPart1 (z u : Value) (w : World) : (part 3 #[z, u] 1).run Tryd.prog w = .ok u w := by kernel_rfl
theorem faultStood : Tryd.prog.stoodInHeld 26 = false := by kernel_rfl
theorem eqFault (a b c d : Int) (w : World) : (Op.equalIn 10000 26 (.agg #[.int .i64 a, .int .i64 b]) (.agg #[.int .i64 c, .int .i64 d])).run Tryd.prog w = .ok (a == c && b == d) w := by
  have hu := Tryd.underlying26
  have hf := fields_eq Tryd.underlying26
  have hi : ∀ (d : Nat) (p q : Int), (Op.equalIn (d + 1) 3 (.int .i64 p) (.int .i64 q)).run Tryd.prog w = .ok (p == q) w := fun d p q => run_equalIn_int w d _ _ _ p q Tryd.underlying3
  have hs : ∀ (d : Nat) (p q : Int), (Op.equalIn (d + 1) 24 (.int .i64 p) (.int .i64 q)).run Tryd.prog w = .ok (p == q) w := fun d p q => run_equalIn_int w d _ _ _ p q Tryd.underlying24
  rw [run_equalIn_agg w 9999 _ _ _ (by rw [hf]; exact hu) faultStood, hf]
  simp only [Op.eqFields]
  cases h1 : (a == c) <;> cases h2 : (b == d) <;> simp [hi, hs, faultPart0, faultPart1, h1, h2, Result.andThen]

/-- A block that is known whole. -/
def Blk (w : World) (b : Nat) (cs : Array Value) (T : Nat) : Prop := w.heap[b]? = some (.cells cs T (0, 0))
theorem Blk.new (w : World) (cs : Array Value) (T : Nat) : Blk (w.alloc (.cells cs T)) w.heap.size cs T := heap_alloc_new w _
theorem Blk.below {w w' : World} {b T : Nat} {cs : Array Value} (h : Blk w b cs T) (hb : Below w.heap.size w w') : Blk w' b cs T := (hb.block b (Array.getElem?_eq_some_iff.1 h).1).trans h

def liveToks : List Tok := [⟨1, ⟨#[97]⟩, 0⟩, ⟨4, ⟨#[45, 62]⟩, 1⟩, ⟨3, ⟨#[112, 114, 101]⟩, 3⟩, ⟨1, ⟨#[98]⟩, 7⟩, ⟨2, ⟨#[49, 50]⟩, 14⟩]
theorem liveCells : (liveToks.flatMap tokC).toArray = #[.int .i64 1, .string ⟨#[97]⟩, .int .i64 0, .int .i64 4, .string ⟨#[45, 62]⟩, .int .i64 1, .int .i64 3, .string ⟨#[112, 114, 101]⟩, .int .i64 3, .int .i64 1, .string ⟨#[98]⟩, .int .i64 7, .int .i64 2, .string ⟨#[49, 50]⟩, .int .i64 14] := rfl
def live1 : ByteArray := ⟨#[97, 45, 62, 112, 114, 101, 32, 98, 32, 45, 45, 32, 120, 10, 49, 50]⟩
def live2 : ByteArray := ⟨#[97, 32, 48, 55]⟩
def live3 : ByteArray := ⟨#[97, 32, 35]⟩
theorem live1_toks : lexToks live1 = liveToks := by rfl
theorem live1_er : lexEr live1 = 0 ∧ lexAt live1 = 0 := by decide +kernel
theorem live2_er : lexEr live2 = 2 ∧ lexAt live2 = 2 := by decide +kernel
theorem live3_er : lexEr live3 = 5 ∧ lexAt live3 = 2 := by decide +kernel
end Go.Proofs.YthnofhobhkcpfaaDoor
