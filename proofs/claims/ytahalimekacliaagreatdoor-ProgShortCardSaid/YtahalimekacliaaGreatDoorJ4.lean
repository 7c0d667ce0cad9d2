/- Programs out of tokens: the plain mathematics. Programs out of tokens among others: the plain mathematics of the laws. Programs out of tokens: the reader as what it does to its state, fault or none; and that it reads what is said. -/
import Derived.Test.YtahalimekacliaaGreatDoorJ3
set_option linter.unusedVariables false
set_option linter.unusedSimpArgs false
namespace Go.Proofs.YtahalimekacliaaGreatDoor
namespace Gx
open Tx Px
structure Pm where
  name : ByteArray
  ty : Int
structure Im where
  kind : Int
  name : ByteArray
  ty : Int
  e : List Nd
  f : List Nd
  args : List (List Nd)
structure Eqn where
  name : ByteArray
  e : List Nd
structure Un where
  con : Bool
  name : ByteArray
  ins : List Pm
  out : Pm
  vars : List Pm
  eqs : List Eqn
  items : List Im
structure Pg where
  units : List Un
  main : ByteArray
  back : ByteArray
abbrev Rz (α : Type) := Except (Int × Int) (α × Nat)
abbrev XO := Nat → Except (Int × Int) (Fo × Nat)
def bd {α β : Type} (r : Rz α) (f : α → Nat → Rz β) : Rz β := match r with
  | .error e => .error e
  | .ok (a, i) => f a i
def er {α : Type} (L : List Tok) (c : Int) (i : Nat) : Rz α := .error (c, atP L i)
def rt {α : Type} (a : α) (i : Nat) : Rz α := .ok (a, i)
def nd (L : List Tok) (s : ByteArray) (i : Nat) : Rz PUnit := if isT L i s = true then rt ⟨⟩ (i + 1) else er L 5 i
def named (L : List Tok) (i : Nat) : Bool := match L[i]? with
  | some t => t.k == 1
  | none => false
def nameS (L : List Tok) (i : Nat) : Rz ByteArray := match L[i]? with
  | some t => if t.k = 1 then rt t.t (i + 1) else er L 5 i
  | none => er L 5 i
def exprS (X : XO) (i : Nat) : Rz (List Nd) := match X i with
  | .error e => .error e
  | .ok (F, j) => rt (F.flat 0) j
def tBool := bs [98, 111, 111, 108]
def tInt := bs [105, 110, 116]
def tSemi := bs [59]
def tColon := bs [58]
def tEq := bs [61]
def tAssume := bs [97, 115, 115, 117, 109, 101]
def tGuar := bs [103, 117, 97, 114, 97, 110, 116, 101, 101]
def tGhost := bs [103, 104, 111, 115, 116]
def tMode := bs [109, 111, 100, 101]
def tImport := bs [105, 109, 112, 111, 114, 116]
def tRequire := bs [114, 101, 113, 117, 105, 114, 101]
def tEnsure := bs [101, 110, 115, 117, 114, 101]
def tEnd := bs [101, 110, 100]
def tContract := bs [99, 111, 110, 116, 114, 97, 99, 116]
def tNode := bs [110, 111, 100, 101]
def tReturns := bs [114, 101, 116, 117, 114, 110, 115]
def tVar := bs [118, 97, 114]
def tLet := bs [108, 101, 116]
def tTel := bs [116, 101, 108]
def tMain := bs [109, 97, 105, 110]
def tFallback := bs [102, 97, 108, 108, 98, 97, 99, 107]
def tyS (L : List Tok) (i : Nat) : Rz Int := if isT L i tBool = true then rt 1 (i + 1) else if isT L i tInt = true then rt 2 (i + 1) else er L 5 i
def paramS (L : List Tok) (i : Nat) : Rz Pm := bd (nameS L i) fun n i => bd (nd L tColon i) fun _ i => bd (tyS L i) fun t i => rt ⟨n, t⟩ i
def loopS {α : Type} (L : List Tok) (one : Nat → Rz (α × Bool)) : Nat → List α → Nat → Rz (List α)
  | 0, _, i => er L 7 i
  | k + 1, acc, i => bd (one i) fun x i => if x.2 = true then loopS L one k (acc ++ [x.1]) i else rt (acc ++ [x.1]) i
def sepS {α : Type} (L : List Tok) (one : Nat → Rz α) (sign : ByteArray) (i : Nat) : Rz (α × Bool) :=
  bd (one i) fun x i => if isT L i tRpar = true then rt (x, false) (i + 1) else bd (nd L sign i) fun _ i => rt (x, true) i
def betweenS {α : Type} (L : List Tok) (one : Nat → Rz α) (sign : ByteArray) (i : Nat) : Rz (List α) :=
  bd (nd L tLpar i) fun _ i => if isT L i tRpar = true then rt [] (i + 1) else loopS L (sepS L one sign) 200 [] i
def onS {α : Type} (one : Nat → Rz α) (on : Nat → Bool) (i : Nat) : Rz (α × Bool) := bd (one i) fun x i => rt (x, on i) i
def manyS {α : Type} (L : List Tok) (one : Nat → Rz α) (on : Nat → Bool) (i : Nat) : Rz (List α) :=
  if on i = true then loopS L (onS one on) 200 [] i else rt [] i
def isItem (L : List Tok) (i : Nat) : Bool := isT L i tAssume || isT L i tGuar || isT L i tGhost || isT L i tMode || isT L i tImport
def isUnit (L : List Tok) (i : Nat) : Bool := isT L i tNode || isT L i tContract
def itemS (L : List Tok) (X : XO) (i : Nat) : Rz Im :=
  if isT L i tAssume = true then bd (exprS X (i + 1)) fun e i => bd (nd L tSemi i) fun _ i => rt ⟨1, noS, 0, e, [], []⟩ i
  else if isT L i tGuar = true then bd (exprS X (i + 1)) fun e i => bd (nd L tSemi i) fun _ i => rt ⟨2, noS, 0, e, [], []⟩ i
  else if isT L i tGhost = true then bd (paramS L (i + 1)) fun p i => bd (nd L tEq i) fun _ i => bd (exprS X i) fun e i => bd (nd L tSemi i) fun _ i => rt ⟨3, p.name, p.ty, e, [], []⟩ i
  else if isT L i tMode = true then bd (nameS L (i + 1)) fun n i => bd (nd L tRequire i) fun _ i => bd (exprS X i) fun e i => bd (nd L tEnsure i) fun _ i => bd (exprS X i) fun f i => bd (nd L tSemi i) fun _ i => rt ⟨4, n, 0, e, f, []⟩ i
  else bd (nameS L (i + 1)) fun n i => bd (betweenS L (exprS X) tComma i) fun l i => bd (nd L tSemi i) fun _ i => rt ⟨5, n, 0, [], [], l⟩ i
def itemsS (L : List Tok) (X : XO) (i : Nat) : Rz (List Im) := bd (manyS L (itemS L X) (isItem L) i) fun l i => bd (nd L tEnd i) fun _ i => rt l i
def eqS (L : List Tok) (X : XO) (i : Nat) : Rz Eqn := bd (nameS L i) fun n i => bd (nd L tEq i) fun _ i => bd (exprS X i) fun e i => bd (nd L tSemi i) fun _ i => rt ⟨n, e⟩ i
def varS (L : List Tok) (i : Nat) : Rz (Pm × Bool) := bd (paramS L i) fun p i => bd (nd L tSemi i) fun _ i => rt (p, named L i) i
def varsS (L : List Tok) (i : Nat) : Rz (List Pm) := loopS L (varS L) 200 [] i
def conS (L : List Tok) (X : XO) (i : Nat) : Rz Un := bd (nameS L i) fun n i => bd (betweenS L (paramS L) tSemi i) fun l i => bd (itemsS L X i) fun x i => rt ⟨true, n, l, ⟨noS, 0⟩, [], [], x⟩ i
def optS {α : Type} (L : List Tok) (s : ByteArray) (f : Nat → Rz (List α)) (i : Nat) : Rz (List α) := if isT L i s = true then f (i + 1) else rt [] i
def eqsS (L : List Tok) (X : XO) (i : Nat) : Rz (List Eqn) := bd (manyS L (eqS L X) (named L) i) fun q i => bd (nd L tTel i) fun _ i => rt q i
def headS (L : List Tok) (i : Nat) : Rz (ByteArray × List Pm × Pm) := bd (nameS L i) fun n i => bd (betweenS L (paramS L) tSemi i) fun l i => bd (nd L tReturns i) fun _ i => bd (nd L tLpar i) fun _ i => bd (paramS L i) fun o i => bd (nd L tRpar i) fun _ i => rt (n, l, o) i
def nodeS (L : List Tok) (X : XO) (i : Nat) : Rz Un := bd (headS L i) fun h i => bd (optS L tContract (itemsS L X) i) fun x i => bd (optS L tVar (varsS L) i) fun v i => bd (nd L tLet i) fun _ i => bd (eqsS L X i) fun q i => rt ⟨false, h.1, h.2.1, h.2.2, v, q, x⟩ i
def unitS (L : List Tok) (X : XO) (i : Nat) : Rz Un := if isT L i tContract = true then conS L X (i + 1) else bd (nd L tNode i) fun _ i => nodeS L X i
def backS (L : List Tok) (i : Nat) : Rz ByteArray := if isT L i tFallback = true then bd (nameS L (i + 1)) fun b i => bd (nd L tSemi i) fun _ i => rt b i else rt noS i
def tailS (L : List Tok) (i : Nat) : Rz (ByteArray × ByteArray) := bd (nd L tMain i) fun _ i => bd (nameS L i) fun m i => bd (nd L tSemi i) fun _ i => bd (backS L i) fun b i => if i < L.length then er L 5 i else rt (m, b) i
def progZ (L : List Tok) (X : XO) : Rz Pg := bd (manyS L (unitS L X) (isUnit L) 0) fun us i => bd (tailS L i) fun t i => rt ⟨us, t.1, t.2⟩ i
def progS (L : List Tok) (X : XO) : Except (Int × Int) Pg := match progZ L X with
  | .error e => .error e
  | .ok (p, _) => .ok p
def XOk (L : List Tok) (X : XO) : Prop := ∀ i, i ≤ L.length → ParR L i (X i)
section
variable {L L' : List Tok} {X X' : XO} {α β : Type}
theorem named_kt {m m' : Nat} (h : (L[m]?).map kt = (L'[m']?).map kt) : named L' m' = named L m := by
  unfold named
  cases h1 : L[m]? with
  | none => rw [kt_none h h1]
  | some t => obtain ⟨t', h2, h3, h4⟩ := kt_some h h1; rw [h2]; simp only [h3]
def RelZ (L L' : List Tok) (a b : Rz α) : Prop := (∃ x, a = .ok x ∧ b = .ok x ∧ x.2 ≤ L.length) ∨ ∃ (c : Int) (i : Nat), c ≠ 0 ∧ a = .error (c, atP L i) ∧ b = .error (c, atP L' i)
theorem RelZ.err (c : Int) (i : Nat) (hc : c ≠ 0) : RelZ (α := α) L L' (er L c i) (er L' c i) := Or.inr ⟨c, i, hc, rfl, rfl⟩
theorem RelZ.ret (a : α) {i : Nat} (h : i ≤ L.length) : RelZ L L' (rt a i) (rt a i) := Or.inl ⟨_, rfl, rfl, h⟩
theorem RelZ.bd_ {r r' : Rz α} {f f' : α → Nat → Rz β} (h : RelZ L L' r r') (hf : ∀ a i, i ≤ L.length → RelZ L L' (f a i) (f' a i)) : RelZ L L' (bd r f) (bd r' f') := by
  rcases h with ⟨⟨a, i⟩, rfl, rfl, hi⟩ | ⟨c, i, hc, rfl, rfl⟩
  · exact hf a i hi
  · exact Or.inr ⟨c, i, hc, rfl, rfl⟩
theorem nd_rel (h : AlkT L L') (s : ByteArray) (i : Nat) : RelZ L L' (nd L s i) (nd L' s i) := by
  unfold nd
  rw [kt_isT (h.at_ i)]
  split
  · rename_i h1; exact RelZ.ret _ (isT_lt h1)
  · exact RelZ.err 5 i (by decide)
theorem name_rel (h : AlkT L L') (i : Nat) : RelZ L L' (nameS L i) (nameS L' i) := by
  unfold nameS
  cases h1 : L[i]? with
  | none => rw [kt_none (h.at_ i) h1]; exact RelZ.err 5 i (by decide)
  | some t =>
    obtain ⟨t', h2, h3, h4⟩ := kt_some (h.at_ i) h1
    rw [h2]
    simp only [h3, h4]
    split
    · exact RelZ.ret _ (List.getElem?_eq_some_iff.1 h1).1
    · exact RelZ.err 5 i (by decide)
theorem par_code {i : Nat} {c p : Int} (h : ParR L i (.error (c, p))) : c ≠ 0 ∧ ∃ m, p = atP L m := by
  obtain ⟨f, hf⟩ := h
  unfold parse at hf
  split at hf
  · rename_i e he
    cases hf
    obtain ⟨h1, h2⟩ := P_err L f (.bin 0) i 0 _ _ he
    exact ⟨by omega, h2⟩
  · simp only [Option.some.injEq] at hf
    split at hf
    · cases hf; exact ⟨by decide, _, rfl⟩
    · split at hf
      · cases hf; exact ⟨by decide, _, rfl⟩
      · cases hf
  · cases hf
theorem par_le (hL : ∀ t ∈ L, TokOk t) {i : Nat} (hi : i ≤ L.length) {F : Fo} {j : Nat} (h : ParR L i (.ok (F, j))) : i < j ∧ j ≤ L.length := by
  obtain ⟨f, hf⟩ := h
  have h1 := ok_lt hL hi (parse_ok hf).1
  exact ⟨h1.1, h1.2.1⟩
theorem expr_rel (h : AlkT L L') (hL : ∀ t ∈ L, TokOk t) (hX : XOk L X) (hX' : XOk L' X') (i : Nat) (hi : i ≤ L.length) : RelZ L L' (exprS X i) (exprS X' i) := by
  unfold exprS
  have h1 := hX i hi
  have h2 := hX' i (by rw [← h.len]; exact hi)
  rcases h1.alike h with ⟨⟨F, j⟩, e1, e2⟩ | ⟨c, m, e1, e2⟩
  · rw [e1] at h1
    rw [e1, ParR.one h2 e2]
    exact RelZ.ret _ (par_le hL hi h1).2
  · rw [e1, ParR.one h2 e2]
    rw [e1] at h1
    exact Or.inr ⟨c, m, (par_code h1).1, rfl, rfl⟩
theorem ty_rel (h : AlkT L L') (i : Nat) : RelZ L L' (tyS L i) (tyS L' i) := by
  unfold tyS
  rw [kt_isT (h.at_ i), kt_isT (h.at_ i)]
  split
  · rename_i h1; exact RelZ.ret _ (isT_lt h1)
  split
  · rename_i h1; exact RelZ.ret _ (isT_lt h1)
  · exact RelZ.err 5 i (by decide)
theorem param_rel (h : AlkT L L') (i : Nat) : RelZ L L' (paramS L i) (paramS L' i) :=
  (name_rel h i).bd_ fun _ i _ => (nd_rel h _ i).bd_ fun _ i _ => (ty_rel h i).bd_ fun _ _ hi => RelZ.ret _ hi
theorem loop_rel {one one' : Nat → Rz (α × Bool)} (h1 : ∀ i, i ≤ L.length → RelZ L L' (one i) (one' i)) : ∀ k acc i, i ≤ L.length → RelZ L L' (loopS L one k acc i) (loopS L' one' k acc i)
  | 0, _, i, _ => RelZ.err 7 i (by decide)
  | k + 1, acc, i, hi => (h1 i hi).bd_ fun x i hi => by
    split
    · exact loop_rel h1 k _ i hi
    · exact RelZ.ret _ hi
theorem sep_rel (h : AlkT L L') {one one' : Nat → Rz α} (h1 : ∀ i, i ≤ L.length → RelZ L L' (one i) (one' i)) (s : ByteArray) (i : Nat) (hi : i ≤ L.length) : RelZ L L' (sepS L one s i) (sepS L' one' s i) :=
  (h1 i hi).bd_ fun x i hi => by
    rw [kt_isT (h.at_ i)]
    split
    · rename_i h1; exact RelZ.ret _ (isT_lt h1)
    · exact (nd_rel h _ i).bd_ fun _ _ hi => RelZ.ret _ hi
theorem between_rel (h : AlkT L L') {one one' : Nat → Rz α} (h1 : ∀ i, i ≤ L.length → RelZ L L' (one i) (one' i)) (s : ByteArray) (i : Nat) : RelZ L L' (betweenS L one s i) (betweenS L' one' s i) :=
  (nd_rel h _ i).bd_ fun x i hi => by
    rw [kt_isT (h.at_ i)]
    split
    · rename_i h1; exact RelZ.ret _ (isT_lt h1)
    · exact loop_rel (sep_rel h h1 s) _ _ _ hi
theorem many_rel {one one' : Nat → Rz α} {on on' : Nat → Bool} (h1 : ∀ i, i ≤ L.length → RelZ L L' (one i) (one' i)) (h2 : ∀ i, on' i = on i) (i : Nat) (hi : i ≤ L.length) : RelZ L L' (manyS L one on i) (manyS L' one' on' i) := by
  unfold manyS
  rw [h2]
  split
  · exact loop_rel (fun i hi => (h1 i hi).bd_ fun x i hi => by rw [h2]; exact RelZ.ret _ hi) _ _ _ hi
  · exact RelZ.ret _ hi
theorem isItem_kt {m m' : Nat} (h : (L[m]?).map kt = (L'[m']?).map kt) : isItem L' m' = isItem L m := by unfold isItem; simp only [kt_isT h]
theorem isUnit_kt {m m' : Nat} (h : (L[m]?).map kt = (L'[m']?).map kt) : isUnit L' m' = isUnit L m := by unfold isUnit; simp only [kt_isT h]
theorem isItem_lt {i : Nat} (h : isItem L i = true) : i < L.length := by
  unfold isItem at h
  simp only [Bool.or_eq_true] at h
  rcases h with (((h | h) | h) | h) | h <;> exact isT_lt h
theorem item_rel (h : AlkT L L') (hL : ∀ t ∈ L, TokOk t) (hX : XOk L X) (hX' : XOk L' X') (i : Nat) (hi : i < L.length) : RelZ L L' (itemS L X i) (itemS L' X' i) := by
  unfold itemS
  simp only [kt_isT (h.at_ i)]
  have hE := fun i hi => expr_rel h hL hX hX' i hi
  split
  · exact (hE _ hi).bd_ fun _ i _ => (nd_rel h _ i).bd_ fun _ _ hi => RelZ.ret _ hi
  split
  · exact (hE _ hi).bd_ fun _ i _ => (nd_rel h _ i).bd_ fun _ _ hi => RelZ.ret _ hi
  split
  · exact (param_rel h _).bd_ fun _ i _ => (nd_rel h _ i).bd_ fun _ _ hi => (hE _ hi).bd_ fun _ i _ => (nd_rel h _ i).bd_ fun _ _ hi => RelZ.ret _ hi
  split
  · exact (name_rel h _).bd_ fun _ i _ => (nd_rel h _ i).bd_ fun _ _ hi => (hE _ hi).bd_ fun _ i _ => (nd_rel h _ i).bd_ fun _ _ hi => (hE _ hi).bd_ fun _ i _ => (nd_rel h _ i).bd_ fun _ _ hi => RelZ.ret _ hi
  · exact (name_rel h _).bd_ fun _ i _ => (between_rel h hE _ i).bd_ fun _ i _ => (nd_rel h _ i).bd_ fun _ _ hi => RelZ.ret _ hi
theorem item_rel' (h : AlkT L L') (hL : ∀ t ∈ L, TokOk t) (hX : XOk L X) (hX' : XOk L' X') (i : Nat) (hi : i ≤ L.length) : RelZ L L' (itemS L X i) (itemS L' X' i) := by
  by_cases h1 : i < L.length
  · exact item_rel h hL hX hX' i h1
  · have hT : ∀ s, isT L i s = false := fun s => by
      unfold isT hereT; rw [List.getElem?_eq_none (by omega)]; simp
    have hT' : ∀ s, isT L' i s = false := fun s => by rw [kt_isT (h.at_ i)]; exact hT s
    unfold itemS
    simp only [hT, hT', if_neg (show ¬ (false = true) by decide)]
    refine RelZ.bd_ (name_rel h _) fun _ i _ => (between_rel h (fun i hi => expr_rel h hL hX hX' i hi) _ i).bd_ fun _ i _ => (nd_rel h _ i).bd_ fun _ _ hi => RelZ.ret _ hi
theorem items_rel (h : AlkT L L') (hL : ∀ t ∈ L, TokOk t) (hX : XOk L X) (hX' : XOk L' X') (i : Nat) (hi : i ≤ L.length) : RelZ L L' (itemsS L X i) (itemsS L' X' i) :=
  (many_rel (fun i hi => item_rel' h hL hX hX' i hi) (fun i => isItem_kt (h.at_ i)) i hi).bd_ fun _ i _ => (nd_rel h _ i).bd_ fun _ _ hi => RelZ.ret _ hi
theorem eq_rel (h : AlkT L L') (hL : ∀ t ∈ L, TokOk t) (hX : XOk L X) (hX' : XOk L' X') (i : Nat) : RelZ L L' (eqS L X i) (eqS L' X' i) :=
  (name_rel h _).bd_ fun _ i _ => (nd_rel h _ i).bd_ fun _ _ hi => (expr_rel h hL hX hX' _ hi).bd_ fun _ i _ => (nd_rel h _ i).bd_ fun _ _ hi => RelZ.ret _ hi
theorem vars_rel (h : AlkT L L') (i : Nat) (hi : i ≤ L.length) : RelZ L L' (varsS L i) (varsS L' i) :=
  loop_rel (fun i _ => (param_rel h i).bd_ fun _ i _ => (nd_rel h _ i).bd_ fun _ i hi => by rw [named_kt (h.at_ i)]; exact RelZ.ret _ hi) _ _ _ hi
theorem opt_rel (h : AlkT L L') {f f' : Nat → Rz (List α)} (hf : ∀ i, i ≤ L.length → RelZ L L' (f i) (f' i)) (s : ByteArray) (i : Nat) (hi : i ≤ L.length) : RelZ L L' (optS L s f i) (optS L' s f' i) := by
  unfold optS
  rw [kt_isT (h.at_ i)]
  split
  · rename_i h1; exact hf _ (isT_lt h1)
  · exact RelZ.ret _ hi
theorem eqs_rel (h : AlkT L L') (hL : ∀ t ∈ L, TokOk t) (hX : XOk L X) (hX' : XOk L' X') (i : Nat) (hi : i ≤ L.length) : RelZ L L' (eqsS L X i) (eqsS L' X' i) :=
  (many_rel (fun i _ => eq_rel h hL hX hX' i) (fun i => named_kt (h.at_ i)) i hi).bd_ fun _ i _ => (nd_rel h _ i).bd_ fun _ _ hi => RelZ.ret _ hi
theorem head_rel (h : AlkT L L') (i : Nat) : RelZ L L' (headS L i) (headS L' i) :=
  (name_rel h _).bd_ fun _ i _ => (between_rel h (fun i _ => param_rel h i) _ i).bd_ fun _ i _ => (nd_rel h _ i).bd_ fun _ i _ => (nd_rel h _ i).bd_ fun _ i _ => (param_rel h i).bd_ fun _ i _ => (nd_rel h _ i).bd_ fun _ _ hi => RelZ.ret _ hi
theorem con_rel (h : AlkT L L') (hL : ∀ t ∈ L, TokOk t) (hX : XOk L X) (hX' : XOk L' X') (i : Nat) : RelZ L L' (conS L X i) (conS L' X' i) :=
  (name_rel h _).bd_ fun _ i _ => (between_rel h (fun i _ => param_rel h i) _ i).bd_ fun _ _ hi => (items_rel h hL hX hX' _ hi).bd_ fun _ _ hi => RelZ.ret _ hi
theorem node_rel (h : AlkT L L') (hL : ∀ t ∈ L, TokOk t) (hX : XOk L X) (hX' : XOk L' X') (i : Nat) : RelZ L L' (nodeS L X i) (nodeS L' X' i) :=
  (head_rel h i).bd_ fun _ _ hi => (opt_rel h (fun i hi => items_rel h hL hX hX' i hi) _ _ hi).bd_ fun _ _ hi => (opt_rel h (fun i hi => vars_rel h i hi) _ _ hi).bd_ fun _ i _ => (nd_rel h _ i).bd_ fun _ _ hi => (eqs_rel h hL hX hX' _ hi).bd_ fun _ _ hi => RelZ.ret _ hi
theorem unit_rel (h : AlkT L L') (hL : ∀ t ∈ L, TokOk t) (hX : XOk L X) (hX' : XOk L' X') (i : Nat) : RelZ L L' (unitS L X i) (unitS L' X' i) := by
  unfold unitS
  rw [kt_isT (h.at_ i)]
  split
  · exact con_rel h hL hX hX' _
  · exact (nd_rel h _ i).bd_ fun _ i _ => node_rel h hL hX hX' i
theorem back_rel (h : AlkT L L') (i : Nat) (hi : i ≤ L.length) : RelZ L L' (backS L i) (backS L' i) := by
  unfold backS
  rw [kt_isT (h.at_ i)]
  split
  · exact (name_rel h _).bd_ fun _ i _ => (nd_rel h _ i).bd_ fun _ _ hi => RelZ.ret _ hi
  · exact RelZ.ret _ hi
theorem tail_rel (h : AlkT L L') (i : Nat) : RelZ L L' (tailS L i) (tailS L' i) :=
  (nd_rel h _ i).bd_ fun _ i _ => (name_rel h _).bd_ fun _ i _ => (nd_rel h _ i).bd_ fun _ _ hi => (back_rel h _ hi).bd_ fun _ i hi => by
    rw [← h.len]
    split
    · exact RelZ.err 5 i (by decide)
    · exact RelZ.ret _ hi
theorem progZ_rel (h : AlkT L L') (hL : ∀ t ∈ L, TokOk t) (hX : XOk L X) (hX' : XOk L' X') : RelZ L L' (progZ L X) (progZ L' X') :=
  (many_rel (fun i _ => unit_rel h hL hX hX' i) (fun i => isUnit_kt (h.at_ i)) 0 (Nat.zero_le _)).bd_ fun _ i _ => (tail_rel h i).bd_ fun _ _ hi => RelZ.ret _ hi
theorem prog_rel (h : AlkT L L') (hL : ∀ t ∈ L, TokOk t) (hX : XOk L X) (hX' : XOk L' X') : (∃ p, progS L X = .ok p ∧ progS L' X' = .ok p) ∨ ∃ (c : Int) (i : Nat), c ≠ 0 ∧ progS L X = .error (c, atP L i) ∧ progS L' X' = .error (c, atP L' i) := by
  unfold progS
  rcases progZ_rel h hL hX hX' with ⟨⟨p, i⟩, e1, e2, -⟩ | ⟨c, i, hc, e1, e2⟩
  · rw [e1, e2]; exact Or.inl ⟨p, rfl, rfl⟩
  · rw [e1, e2]; exact Or.inr ⟨c, i, hc, rfl, rfl⟩
theorem prog_fault (hL : ∀ t ∈ L, TokOk t) (hX : XOk L X) {c p : Int} (h : progS L X = .error (c, p)) : c ≠ 0 ∧ (p = -1 ∨ ∃ t ∈ L, p = t.p) := by
  rcases prog_rel (L := L) (L' := L) rfl hL hX hX with ⟨q, e, -⟩ | ⟨c', i, hc, e, -⟩
  · rw [e] at h; cases h
  · rw [e] at h; cases h
    refine ⟨hc, ?_⟩
    unfold atP
    cases h1 : L[i]? with
    | none => exact Or.inl rfl
    | some t => exact Or.inr ⟨t, List.mem_of_getElem? h1, rfl⟩
end
end Gx
end Go.Proofs.YtahalimekacliaaGreatDoor
namespace Go.Proofs.YtahalimekacliaaGreatDoor
namespace Gx
open Tx Px
def Lox (L L' : List Tok) (d i j : Nat) : Prop := ∀ m, i ≤ m → m < j → (L[m]?).map kt = (L'[d + m]?).map kt
theorem bd_ok {α β : Type} {r : Rz α} {f : α → Nat → Rz β} {b : β} {j : Nat} (h : bd r f = .ok (b, j)) : ∃ a k, r = .ok (a, k) ∧ f a k = .ok (b, j) := by
  unfold bd at h
  split at h
  · cases h
  · exact ⟨_, _, rfl, h⟩
theorem bd_of {α β : Type} {r : Rz α} {f : α → Nat → Rz β} {a : α} {k : Nat} (h : r = .ok (a, k)) : bd r f = f a k := by rw [h]; rfl
theorem rt_ok {α : Type} {a b : α} {i j : Nat} (h : rt a i = .ok (b, j)) : b = a ∧ j = i := by cases h; exact ⟨rfl, rfl⟩
theorem er_ok {α : Type} {L : List Tok} {c : Int} {i : Nat} {b : α} {j : Nat} (h : er L c i = .ok (b, j)) : False := by cases h
section
variable {L L' : List Tok} {d : Nat} {α β : Type}
def PX (L L' : List Tok) (d s : Nat) (f f' : Nat → Rz α) : Prop := ∀ i a j, f i = .ok (a, j) → i + s ≤ j ∧ (Lox L L' d i j → f' (d + i) = .ok (a, d + j))
def PI (L L' : List Tok) (d : Nat) (f f' : Nat → Rz α) : Prop := ∀ i a j, f i = .ok (a, j) → i ≤ j ∧ (LocT L L' d i j → f' (d + i) = .ok (a, d + j))
theorem PX.bd_ {s t : Nat} {f f' : Nat → Rz α} {g g' : α → Nat → Rz β} (h : PX L L' d s f f') (hg : ∀ a, PX L L' d t (g a) (g' a)) : PX L L' d (s + t) (fun i => bd (f i) (g · ·)) (fun i => bd (f' i) (g' · ·)) := by
  intro i b j e
  obtain ⟨a, k, e1, e2⟩ := bd_ok e
  obtain ⟨h1, h2⟩ := h i a k e1
  obtain ⟨h3, h4⟩ := hg a k b j e2
  exact ⟨by omega, fun hl => by
    dsimp only
    rw [bd_of (h2 fun m a b => hl m a (by omega))]
    exact h4 fun m a b => hl m (by omega) b⟩
theorem PX.next {s : Nat} {f f' : Nat → Rz α} (h : PX L L' d s f f') : PX L L' d (s + 1) (fun i => f (i + 1)) (fun i => f' (i + 1)) := fun i b j e => by
  obtain ⟨h1, h2⟩ := h (i + 1) b j e
  exact ⟨by omega, fun hl => h2 fun m a b => hl m (by omega) b⟩
theorem PI.next {f f' : Nat → Rz α} (h : PI L L' d f f') : PI L L' d (fun i => f (i + 1)) (fun i => f' (i + 1)) := fun i b j e => by
  obtain ⟨h1, h2⟩ := h (i + 1) b j e
  exact ⟨by omega, fun hl => h2 fun m a b => hl m (by omega) b⟩
def XAll (L : List Tok) (X : XO) : Prop := ∀ i, ParR L i (X i)
theorem XAll.ok {X : XO} (h : XAll L X) : XOk L X := fun i _ => h i
theorem ParR_out {i : Nat} (hi : L.length ≤ i) : ParR L i (.error (5, -1)) := by
  have h1 : P L 1 (.bin 8) i 0 = some (.error (5, -1)) := by
    show operandS _ L i 0 = _
    unfold operandS
    rw [if_neg (by omega), List.getElem?_eq_none hi]
    unfold errAt atP; rw [List.getElem?_eq_none hi]
  exact ⟨1 + 8, by unfold parse; rw [up_err 8 0 rfl h1]⟩
theorem XAll.ex (hL : ∀ t ∈ L, TokOk t) : ∃ X, XAll L X := by
  have : ∀ i, ∃ r, ParR L i r := fun i => by
    by_cases hi : i ≤ L.length
    · exact ParR.all hL hi
    · exact ⟨_, ParR_out (by omega)⟩
  exact ⟨fun i => (this i).choose, fun i => (this i).choose_spec⟩
variable {X X' : XO}
theorem nd_ok {s : ByteArray} {i j : Nat} {u : PUnit} (h : nd L s i = .ok (u, j)) : isT L i s = true ∧ j = i + 1 := by
  unfold nd at h
  split at h
  · rename_i h1; exact ⟨h1, (rt_ok h).2⟩
  · cases h
theorem name_ok {n : ByteArray} {i j : Nat} (h : nameS L i = .ok (n, j)) : ∃ t, L[i]? = some t ∧ t.k = 1 ∧ t.t = n ∧ j = i + 1 := by
  unfold nameS at h
  split at h
  · rename_i t ht
    split at h
    · rename_i hk
      obtain ⟨rfl, rfl⟩ := rt_ok h
      exact ⟨t, ht, hk, rfl, rfl⟩
    · cases h
  · cases h
structure TailAt (L : List Tok) (k : Nat) (m b : ByteArray) : Prop where
  main : isT L k tMain = true
  name : ∃ t, L[k + 1]? = some t ∧ t.k = 1 ∧ t.t = m
  semi : isT L (k + 2) tSemi = true
  back : (L.length = k + 3 ∧ b = noS) ∨ (isT L (k + 3) tFallback = true ∧ (∃ t, L[k + 4]? = some t ∧ t.k = 1 ∧ t.t = b) ∧ isT L (k + 5) tSemi = true ∧ L.length = k + 6)
theorem tail_at {k j : Nat} {m b : ByteArray} (h : tailS L k = .ok ((m, b), j)) : TailAt L k m b := by
  obtain ⟨_, i1, h1, h2⟩ := bd_ok h
  obtain ⟨h3, rfl⟩ := nd_ok h1
  obtain ⟨n, i2, h4, h5⟩ := bd_ok h2
  obtain ⟨t, h6, h7, h8, rfl⟩ := name_ok h4
  obtain ⟨_, i3, h9, h10⟩ := bd_ok h5
  obtain ⟨h11, rfl⟩ := nd_ok h9
  obtain ⟨b', i4, h12, h13⟩ := bd_ok h10
  split at h13
  · cases h13
  rename_i hlen
  obtain ⟨e, rfl⟩ := rt_ok h13
  cases e
  have l1 := isT_lt h11
  refine ⟨h3, ⟨t, h6, h7, h8⟩, h11, ?_⟩
  unfold backS at h12
  split at h12
  · rename_i hf
    obtain ⟨b2, i5, e1, e2⟩ := bd_ok h12
    obtain ⟨t2, e3, e4, e5, rfl⟩ := name_ok e1
    obtain ⟨_, i6, e6, e7⟩ := bd_ok e2
    obtain ⟨e8, rfl⟩ := nd_ok e6
    obtain ⟨rfl, rfl⟩ := rt_ok e7
    have l2 := isT_lt e8
    exact Or.inr ⟨hf, ⟨t2, e3, e4, e5⟩, e8, by omega⟩
  · obtain ⟨rfl, rfl⟩ := rt_ok h12
    exact Or.inl ⟨by omega, rfl⟩
theorem prog_ok {p : Pg} (h : progS L X = .ok p) : ∃ k, manyS L (unitS L X) (isUnit L) 0 = .ok (p.units, k) ∧ TailAt L k p.main p.back := by
  unfold progS at h
  split at h
  · cases h
  · rename_i q i hq
    cases h
    obtain ⟨us, k, h1, h2⟩ := bd_ok hq
    obtain ⟨⟨m, b⟩, j, h3, h4⟩ := bd_ok h2
    obtain ⟨rfl, rfl⟩ := rt_ok h4
    exact ⟨k, h1, tail_at h3⟩
theorem tail_lt {k : Nat} {m b : ByteArray} (h : TailAt L k m b) : k + 3 ≤ L.length := by
  have := isT_lt h.semi; omega
end
end Gx
end Go.Proofs.YtahalimekacliaaGreatDoor
namespace Go.Proofs.YtahalimekacliaaGreatDoor
namespace Mx
open Tx Px Gx
structure Rs where
  i : Nat
  c : Int
  p : Int
section
variable (L : List Tok) (X : XO) {α β : Type}
def failR (e : Int) (s : Rs) : Rs := if s.c = 0 then ⟨s.i, e, atP L s.i⟩ else s
def nextR (s : Rs) : Rs := ⟨s.i + 1, s.c, s.p⟩
def markR (s : Rs) : ByteArray := if s.c = 0 then (hereT L s.i).getD noS else noS
def takeB (t : ByteArray) (s : Rs) : Bool := decide (markR L s = t)
def takeR (t : ByteArray) (s : Rs) : Rs := if markR L s = t then nextR s else s
def needR (t : ByteArray) (s : Rs) : Rs := if markR L s = t then nextR s else failR L 5 s
def textR (s : Rs) : ByteArray := if s.c = 0 ∧ named L s.i = true then ((L[s.i]?).map Tok.t).getD noS else noS
def nameR (s : Rs) : ByteArray × Rs := if textR L s = noS then (noS, failR L 5 s) else (textR L s, nextR s)
def exprR (s : Rs) : List Nd × Rs := if s.c = 0 then (match X s.i with
  | .error e => ([], ⟨s.i, e.1, e.2⟩)
  | .ok (F, j) => (F.flat 0, ⟨j, 0, s.p⟩)) else ([], s)
def typT (t : ByteArray) : Int := if t = tBool then 1 else if t = tInt then 2 else 0
def paramR (s : Rs) : Pm × Rs :=
  let (n, s) := nameR L s
  let s := needR L tColon s
  if typT (markR L s) = 0 then (⟨n, 0⟩, failR L 5 s) else (⟨n, typT (markR L s)⟩, nextR s)
def manyR (one : Rs → (α × Bool) × Rs) : Nat → Bool → List α → Rs → List α × Rs
  | 0, b, acc, s => if s.c = 0 ∧ b = true then (acc, failR L 7 s) else (acc, s)
  | k + 1, b, acc, s => if s.c = 0 ∧ b = true then manyR one k (one s).1.2 (acc ++ [(one s).1.1]) (one s).2 else (acc, s)
def sepR (one : Rs → α × Rs) (sign : ByteArray) (s : Rs) : (α × Bool) × Rs :=
  let (x, s) := one s
  if markR L s = tRpar then ((x, false), nextR s) else ((x, true), needR L sign s)
def betweenR (one : Rs → α × Rs) (sign : ByteArray) (s : Rs) : List α × Rs :=
  let s := needR L tLpar s
  if markR L s = tRpar then ([], nextR s) else manyR L (sepR L one sign) 200 true [] s
def isItemR (s : Rs) : Bool := s.c = 0 && isItem L s.i
def isUnitR (s : Rs) : Bool := s.c = 0 && isUnit L s.i
def namedR (s : Rs) : Bool := s.c = 0 && named L s.i
def onR (one : Rs → α × Rs) (on : Rs → Bool) (s : Rs) : (α × Bool) × Rs :=
  let (x, s) := one s
  ((x, on s), s)
def itemR (s : Rs) : Im × Rs :=
  let t := markR L s
  let s := nextR s
  if t = tAssume then
    let (e, s) := exprR X s
    (⟨1, noS, 0, e, [], []⟩, needR L tSemi s)
  else if t = tGuar then
    let (e, s) := exprR X s
    (⟨2, noS, 0, e, [], []⟩, needR L tSemi s)
  else if t = tGhost then
    let (p, s) := paramR L s
    let s := needR L tEq s
    let (e, s) := exprR X s
    (⟨3, p.name, p.ty, e, [], []⟩, needR L tSemi s)
  else if t = tMode then
    let (n, s) := nameR L s
    let s := needR L tRequire s
    let (e, s) := exprR X s
    let s := needR L tEnsure s
    let (f, s) := exprR X s
    (⟨4, n, 0, e, f, []⟩, needR L tSemi s)
  else
    let (n, s) := nameR L s
    let (l, s) := betweenR L (exprR X) tComma s
    (⟨5, n, 0, [], [], l⟩, needR L tSemi s)
def itemsR (s : Rs) : List Im × Rs :=
  let (l, s) := manyR L (onR (itemR L X) (isItemR L)) 200 (isItemR L s) [] s
  (l, needR L tEnd s)
def eqR (s : Rs) : Eqn × Rs :=
  let (n, s) := nameR L s
  let s := needR L tEq s
  let (e, s) := exprR X s
  (⟨n, e⟩, needR L tSemi s)
def varR (s : Rs) : (Pm × Bool) × Rs :=
  let (p, s) := paramR L s
  let s := needR L tSemi s
  ((p, namedR L s), s)
def varsR (s : Rs) : List Pm × Rs := manyR L (varR L) 200 true [] s
def optR (t : ByteArray) (f : Rs → List α × Rs) (s : Rs) : List α × Rs := if markR L s = t then f (nextR s) else ([], s)
def conR (s : Rs) : Un × Rs :=
  let (n, s) := nameR L s
  let (l, s) := betweenR L (paramR L) tSemi s
  let (x, s) := itemsR L X s
  (⟨true, n, l, ⟨noS, 0⟩, [], [], x⟩, s)
def eqsR (s : Rs) : List Eqn × Rs :=
  let (l, s) := manyR L (onR (eqR L X) (namedR L)) 200 (namedR L s) [] s
  (l, needR L tTel s)
def headR (s : Rs) : (ByteArray × List Pm × Pm) × Rs :=
  let (n, s) := nameR L s
  let (l, s) := betweenR L (paramR L) tSemi s
  let s := needR L tReturns s
  let s := needR L tLpar s
  let (o, s) := paramR L s
  ((n, l, o), needR L tRpar s)
def nodeR3 (h : ByteArray × List Pm × Pm) (x : List Im) (v : List Pm) (s : Rs) : Un × Rs := (⟨false, h.1, h.2.1, h.2.2, v, (eqsR L X (needR L tLet s)).1, x⟩, (eqsR L X (needR L tLet s)).2)
def nodeR2 (h : ByteArray × List Pm × Pm) (x : List Im) (s : Rs) : Un × Rs := nodeR3 L X h x (optR L tVar (varsR L) s).1 (optR L tVar (varsR L) s).2
def nodeR1 (h : ByteArray × List Pm × Pm) (s : Rs) : Un × Rs := nodeR2 L X h (optR L tContract (itemsR L X) s).1 (optR L tContract (itemsR L X) s).2
def nodeR (s : Rs) : Un × Rs := nodeR1 L X (headR L s).1 (headR L s).2
def unitR (s : Rs) : Un × Rs := if markR L s = tContract then conR L X (nextR s) else nodeR L X (needR L tNode s)
def unitsR (s : Rs) : List Un × Rs := manyR L (onR (unitR L X) (isUnitR L)) 200 (isUnitR L s) [] s
def backR (s : Rs) : ByteArray × Rs := if markR L s = tFallback then
    let (b, s) := nameR L (nextR s)
    (b, needR L tSemi s)
  else (noS, s)
def tailR2 (m b : ByteArray) (s : Rs) : (ByteArray × ByteArray) × Rs := ((m, b), if s.i < L.length then failR L 5 s else s)
def tailR1 (m : ByteArray) (s : Rs) : (ByteArray × ByteArray) × Rs := tailR2 L m (backR L (needR L tSemi s)).1 (backR L (needR L tSemi s)).2
def tailR (s : Rs) : (ByteArray × ByteArray) × Rs := tailR1 L (nameR L (needR L tMain s)).1 (nameR L (needR L tMain s)).2
def progR1 (us : List Un) (s : Rs) : Pg × Rs := (⟨us, (tailR L s).1.1, (tailR L s).1.2⟩, (tailR L s).2)
def progR : Pg × Rs := progR1 L (unitsR L X ⟨0, 0, 0⟩).1 (unitsR L X ⟨0, 0, 0⟩).2
end
section
variable {L : List Tok} {X : XO} {α β γ : Type}
def Gv (L : List Tok) (p : Int) (r : Rz α) (y : α × Rs) : Prop := match r with
  | .ok (a, j) => y = (a, ⟨j, 0, p⟩) ∧ j ≤ L.length
  | .error (c, q) => c ≠ 0 ∧ ∃ a j, y = (a, ⟨j, c, q⟩) ∧ j ≤ L.length
structure Ag (L : List Tok) (f : Nat → Rz α) (g : Rs → α × Rs) : Prop where
  go : ∀ i p, i ≤ L.length → Gv L p (f i) (g ⟨i, 0, p⟩)
  stay : ∀ s, s.c ≠ 0 → ∃ a, g s = (a, s)
structure Ap (L : List Tok) (f : Nat → Rz PUnit) (g : Rs → Rs) : Prop where
  go : ∀ i p, i ≤ L.length → match f i with
    | .ok (_, j) => g ⟨i, 0, p⟩ = ⟨j, 0, p⟩ ∧ j ≤ L.length
    | .error (c, q) => c ≠ 0 ∧ ∃ j, g ⟨i, 0, p⟩ = ⟨j, c, q⟩ ∧ j ≤ L.length
  stay : ∀ s, s.c ≠ 0 → g s = s
theorem Ag.bd_ {f : Nat → Rz α} {g : Rs → α × Rs} {h : α → Nat → Rz β} {k : α → Rs → β × Rs} (H : Ag L f g) (K : ∀ a, Ag L (h a) (k a)) : Ag L (fun i => bd (f i) h) (fun s => k (g s).1 (g s).2) := by
  refine ⟨fun i p hi => ?_, fun s hs => ?_⟩
  · have h1 := H.go i p hi
    cases hf : f i with
    | error e =>
      obtain ⟨c, q⟩ := e
      rw [hf] at h1
      obtain ⟨hc, a, j, h2, h3⟩ := h1
      obtain ⟨b, h4⟩ := (K a).stay ⟨j, c, q⟩ hc
      exact ⟨hc, b, j, by rw [h2]; exact h4, h3⟩
    | ok r =>
      obtain ⟨a, j⟩ := r
      rw [hf] at h1
      obtain ⟨h2, h3⟩ := h1
      have h4 := (K a).go j p h3
      simp only [bd]
      rw [h2]
      exact h4
  · obtain ⟨a, h1⟩ := H.stay s hs
    obtain ⟨b, h2⟩ := (K a).stay s hs
    exact ⟨b, by rw [h1]; exact h2⟩
theorem Ap.bd_ {f : Nat → Rz PUnit} {g : Rs → Rs} {h : Nat → Rz β} {k : Rs → β × Rs} (H : Ap L f g) (K : Ag L h k) : Ag L (fun i => bd (f i) (fun _ => h)) (fun s => k (g s)) := by
  refine ⟨fun i p hi => ?_, fun s hs => ?_⟩
  · have h1 := H.go i p hi
    cases hf : f i with
    | error e =>
      obtain ⟨c, q⟩ := e
      rw [hf] at h1
      obtain ⟨hc, j, h2, h3⟩ := h1
      obtain ⟨b, h4⟩ := K.stay ⟨j, c, q⟩ hc
      exact ⟨hc, b, j, by rw [h2]; exact h4, h3⟩
    | ok r =>
      obtain ⟨a, j⟩ := r
      rw [hf] at h1
      obtain ⟨h2, h3⟩ := h1
      have h4 := K.go j p h3
      simp only [bd]
      rw [h2]
      exact h4
  · obtain ⟨b, h2⟩ := K.stay s hs
    exact ⟨b, by rw [H.stay s hs]; exact h2⟩
theorem ag_ret (a : α) : Ag L (fun i => rt a i) (fun s => (a, s)) := ⟨fun i p hi => ⟨rfl, hi⟩, fun s _ => ⟨_, rfl⟩⟩
theorem mark_is {i : Nat} {p : Int} {t : ByteArray} (ht : t ≠ noS) : markR L ⟨i, 0, p⟩ = t ↔ isT L i t = true := by
  unfold markR isT
  simp only [if_true, decide_eq_true_eq]
  cases hereT L i with
  | none => simp [ht.symm]
  | some x => simp
theorem mark_fault {s : Rs} {t : ByteArray} (ht : t ≠ noS) (hs : s.c ≠ 0) : markR L s ≠ t := by
  unfold markR; rw [if_neg hs]; exact ht.symm
theorem need_ap {t : ByteArray} (ht : t ≠ noS) : Ap L (nd L t) (needR L t) := by
  refine ⟨fun i p hi => ?_, fun s hs => ?_⟩
  · unfold nd needR
    by_cases h : isT L i t = true
    · rw [if_pos h, if_pos ((mark_is ht).2 h)]
      exact ⟨rfl, isT_lt h⟩
    · rw [if_neg h, if_neg (fun q => h ((mark_is ht).1 q))]
      exact ⟨by decide, i, by simp [failR], hi⟩
  · unfold needR failR
    rw [if_neg (mark_fault ht hs), if_neg hs]
theorem if_ag {t : ByteArray} (ht : t ≠ noS) {f g : Nat → Rz α} {f' g' : Rs → α × Rs} (hf : Ag L f f') (hg : Ag L g g') : Ag L (fun i => if isT L i t = true then f (i + 1) else g i) (fun s => if markR L s = t then f' (nextR s) else g' s) := by
  refine ⟨fun i p hi => ?_, fun s hs => ?_⟩
  · by_cases h : isT L i t = true
    · have h1 := hf.go (i + 1) p (isT_lt h)
      rw [if_pos h, if_pos ((mark_is ht).2 h)]
      exact h1
    · rw [if_neg h, if_neg (fun q => h ((mark_is ht).1 q))]
      exact hg.go i p hi
  · rw [if_neg (mark_fault ht hs)]
    exact hg.stay s hs
theorem name_ag (hL : ∀ t ∈ L, TokOk t) : Ag L (nameS L) (nameR L) := by
  refine ⟨fun i p hi => ?_, fun s hs => ?_⟩
  · unfold nameS nameR textR named
    cases h : L[i]? with
    | none => exact ⟨by decide, noS, i, by simp [h, failR], hi⟩
    | some t =>
      by_cases hk : t.k = 1
      · have h1 := (hL t (List.mem_of_getElem? h)).name hk
        have h2 : t.t ≠ noS := h1
        simp only [hk, if_true]
        refine ⟨?_, (List.getElem?_eq_some_iff.1 h).1⟩
        simp [h, hk, h2, nextR]
      · simp only [hk, if_false]
        refine ⟨by decide, noS, i, ?_, hi⟩
        simp [h, hk, failR]
  · refine ⟨noS, ?_⟩
    unfold nameR textR failR
    simp [hs]
theorem expr_ag (hL : ∀ t ∈ L, TokOk t) (hX : XOk L X) : Ag L (exprS X) (exprR X) := by
  refine ⟨fun i p hi => ?_, fun s hs => ⟨[], by unfold exprR; rw [if_neg hs]⟩⟩
  have h1 := hX i hi
  unfold exprS exprR
  simp only [if_true]
  cases h : X i with
  | error e =>
    obtain ⟨c, q⟩ := e
    rw [h] at h1
    exact ⟨(par_code h1).1, _, _, rfl, hi⟩
  | ok r =>
    obtain ⟨F, j⟩ := r
    rw [h] at h1
    exact ⟨rfl, (par_le hL hi h1).2⟩
theorem typT_no : typT noS = 0 := by decide
theorem ty_ag {n : ByteArray} : Ag L (fun i => bd (tyS L i) fun t i => rt (⟨n, t⟩ : Pm) i) (fun s => if typT (markR L s) = 0 then (⟨n, 0⟩, failR L 5 s) else (⟨n, typT (markR L s)⟩, nextR s)) := by
  refine ⟨fun i p hi => ?_, fun s hs => ⟨⟨n, 0⟩, ?_⟩⟩
  · unfold tyS
    have e : ∀ t, t ≠ noS → isT L i t = false → markR L ⟨i, 0, p⟩ ≠ t := fun t ht h q => by rw [(mark_is ht).1 q] at h; cases h
    by_cases h1 : isT L i tBool = true
    · have h2 := (mark_is (p := p) (show tBool ≠ noS by decide)).2 h1
      simp only [h1, if_true]
      rw [h2]
      exact ⟨by simp [typT, nextR], isT_lt h1⟩
    · simp only [h1]
      by_cases h3 : isT L i tInt = true
      · have h2 := (mark_is (p := p) (show tInt ≠ noS by decide)).2 h3
        simp only [h3, if_true]
        rw [h2]
        refine ⟨?_, isT_lt h3⟩
        have : typT tInt = 2 := by decide
        simp [this, nextR]
      · simp only [h3]
        have e1 := e tBool (by decide) (by simpa using h1)
        have e2 := e tInt (by decide) (by simpa using h3)
        refine ⟨by decide, ⟨n, 0⟩, i, ?_, hi⟩
        have : typT (markR L ⟨i, 0, p⟩) = 0 := by unfold typT; rw [if_neg e1, if_neg e2]
        simp [this, failR]
  · have : markR L s = noS := by unfold markR; rw [if_neg hs]
    rw [this, typT_no]
    simp [failR, hs]
theorem param_ag (hL : ∀ t ∈ L, TokOk t) : Ag L (paramS L) (paramR L) :=
  (name_ag hL).bd_ (k := fun n s => if typT (markR L (needR L tColon s)) = 0 then ((⟨n, 0⟩ : Pm), failR L 5 (needR L tColon s)) else ((⟨n, typT (markR L (needR L tColon s))⟩ : Pm), nextR (needR L tColon s))) fun _ => (need_ap (by decide)).bd_ ty_ag
theorem loop_ag {f : Nat → Rz (α × Bool)} {g : Rs → (α × Bool) × Rs} (h : Ag L f g) : ∀ k acc, Ag L (loopS L f k acc) (manyR L g k true acc)
  | 0, acc => ⟨fun i p hi => ⟨by decide, acc, i, by simp [manyR, failR], hi⟩, fun s hs => ⟨acc, by simp [manyR, hs]⟩⟩
  | k + 1, acc => by
    refine ⟨fun i p hi => ?_, fun s hs => ⟨acc, by simp [manyR, hs]⟩⟩
    have h1 := h.go i p hi
    unfold loopS manyR
    simp only [true_and, and_self, if_true]
    cases hf : f i with
    | error e =>
      obtain ⟨c, q⟩ := e
      rw [hf] at h1
      obtain ⟨hc, ⟨a, b⟩, j, h2, h3⟩ := h1
      simp only [bd]
      rw [h2]
      refine ⟨hc, acc ++ [a], j, ?_, h3⟩
      cases k <;> simp [manyR, hc]
    | ok r =>
      obtain ⟨⟨a, b⟩, j⟩ := r
      rw [hf] at h1
      obtain ⟨h2, h3⟩ := h1
      simp only [bd]
      rw [h2]
      cases b
      · refine ⟨?_, h3⟩
        cases k <;> simp [manyR]
      · exact (loop_ag h k (acc ++ [a])).go j p h3
theorem on_ag {f : Nat → Rz α} {g : Rs → α × Rs} (h : Ag L f g) {on : Nat → Bool} {on' : Rs → Bool} (ho : ∀ i p, on' ⟨i, 0, p⟩ = on i) : Ag L (onS f on) (onR g on') := by
  refine Ag.bd_ (k := fun x s => ((x, on' s), s)) h fun x => ⟨fun i p hi => ⟨?_, hi⟩, fun s _ => ⟨_, rfl⟩⟩
  rw [ho]
theorem many_ag {f : Nat → Rz α} {g : Rs → α × Rs} (h : Ag L f g) {on : Nat → Bool} {on' : Rs → Bool} (ho : ∀ i p, on' ⟨i, 0, p⟩ = on i) : Ag L (manyS L f on) (fun s => manyR L (onR g on') 200 (on' s) [] s) := by
  refine ⟨fun i p hi => ?_, fun s hs => ⟨[], by simp [manyR, hs]⟩⟩
  unfold manyS
  rw [ho]
  by_cases h1 : on i = true
  · rw [if_pos h1, h1]; exact (loop_ag (on_ag h ho) 200 []).go i p hi
  · rw [if_neg h1]
    exact ⟨by simp [manyR, h1], hi⟩
theorem sep_ag {f : Nat → Rz α} {g : Rs → α × Rs} (h : Ag L f g) {t : ByteArray} (ht : t ≠ noS) : Ag L (sepS L f t) (sepR L g t) :=
  Ag.bd_ (k := fun x s => if markR L s = tRpar then ((x, false), nextR s) else ((x, true), needR L t s)) h fun x =>
    if_ag (by decide) (f' := fun s => ((x, false), s)) (g' := fun s => ((x, true), needR L t s)) (ag_ret _) ((need_ap ht).bd_ (k := fun s => ((x, true), s)) (ag_ret _))
theorem between_ag {f : Nat → Rz α} {g : Rs → α × Rs} (h : Ag L f g) {t : ByteArray} (ht : t ≠ noS) : Ag L (betweenS L f t) (betweenR L g t) :=
  (need_ap (by decide)).bd_ (k := fun s => if markR L s = tRpar then ([], nextR s) else manyR L (sepR L g t) 200 true [] s) (if_ag (by decide) (f' := fun s => ([], s)) (ag_ret _) (loop_ag (sep_ag h ht) 200 []))
theorem isItemR_is (i : Nat) (p : Int) : isItemR L ⟨i, 0, p⟩ = isItem L i := by simp [isItemR]
theorem isUnitR_is (i : Nat) (p : Int) : isUnitR L ⟨i, 0, p⟩ = isUnit L i := by simp [isUnitR]
theorem namedR_is (i : Nat) (p : Int) : namedR L ⟨i, 0, p⟩ = named L i := by simp [namedR]
theorem end_ag {t : ByteArray} (ht : t ≠ noS) (a : α) : Ag L (fun i => bd (nd L t i) fun _ i => rt a i) (fun s => (a, needR L t s)) := (need_ap ht).bd_ (k := fun s => (a, s)) (ag_ret a)
theorem eq_ag (hL : ∀ t ∈ L, TokOk t) (hX : XOk L X) : Ag L (eqS L X) (eqR L X) :=
  (name_ag hL).bd_ (k := fun n s => ((⟨n, (exprR X (needR L tEq s)).1⟩ : Eqn), needR L tSemi (exprR X (needR L tEq s)).2)) fun n =>
    (need_ap (by decide)).bd_ (k := fun s => ((⟨n, (exprR X s).1⟩ : Eqn), needR L tSemi (exprR X s).2)) ((expr_ag hL hX).bd_ (k := fun e s => ((⟨n, e⟩ : Eqn), needR L tSemi s)) fun e => end_ag (by decide) _)
theorem var_ag (hL : ∀ t ∈ L, TokOk t) : Ag L (varS L) (varR L) :=
  (param_ag hL).bd_ (k := fun p s => ((p, namedR L (needR L tSemi s)), needR L tSemi s)) fun p => (need_ap (by decide)).bd_ (k := fun s => ((p, namedR L s), s)) ⟨fun i q hi => ⟨by rw [namedR_is], hi⟩, fun s _ => ⟨_, rfl⟩⟩
theorem opt_ag {f : Nat → Rz (List α)} {g : Rs → List α × Rs} (h : Ag L f g) {t : ByteArray} (ht : t ≠ noS) : Ag L (optS L t f) (optR L t g) := if_ag ht h (ag_ret _)
theorem item_go (hL : ∀ t ∈ L, TokOk t) (hX : XOk L X) (i : Nat) (p : Int) (hi : isItem L i = true) : Gv L p (itemS L X i) (itemR L X ⟨i, 0, p⟩) := by
  have hlt := isItem_lt hi
  have hE := expr_ag hL hX
  unfold itemS itemR
  by_cases h1 : isT L i tAssume = true
  · rw [if_pos h1]
    show Gv L p _ (ite _ _ _)
    rw [if_pos ((mark_is (by decide)).2 h1)]
    exact (hE.bd_ (k := fun e s => ((⟨1, noS, 0, e, [], []⟩ : Im), needR L tSemi s)) fun e => end_ag (by decide) _).go (i + 1) p hlt
  rw [if_neg h1]
  show Gv L p _ (ite _ _ _)
  rw [if_neg (fun q => h1 ((mark_is (by decide)).1 q))]
  by_cases h2 : isT L i tGuar = true
  · rw [if_pos h2, if_pos ((mark_is (by decide)).2 h2)]
    exact (hE.bd_ (k := fun e s => ((⟨2, noS, 0, e, [], []⟩ : Im), needR L tSemi s)) fun e => end_ag (by decide) _).go (i + 1) p hlt
  rw [if_neg h2, if_neg (fun q => h2 ((mark_is (by decide)).1 q))]
  by_cases h3 : isT L i tGhost = true
  · rw [if_pos h3, if_pos ((mark_is (by decide)).2 h3)]
    exact ((param_ag hL).bd_ (k := fun p s => ((⟨3, p.name, p.ty, (exprR X (needR L tEq s)).1, [], []⟩ : Im), needR L tSemi (exprR X (needR L tEq s)).2)) fun pp =>
      (need_ap (by decide)).bd_ (k := fun s => ((⟨3, pp.name, pp.ty, (exprR X s).1, [], []⟩ : Im), needR L tSemi (exprR X s).2)) (hE.bd_ (k := fun e s => ((⟨3, pp.name, pp.ty, e, [], []⟩ : Im), needR L tSemi s)) fun e => end_ag (by decide) _)).go (i + 1) p hlt
  rw [if_neg h3, if_neg (fun q => h3 ((mark_is (by decide)).1 q))]
  by_cases h4 : isT L i tMode = true
  · rw [if_pos h4, if_pos ((mark_is (by decide)).2 h4)]
    exact ((name_ag hL).bd_ (k := fun n s => ((⟨4, n, 0, (exprR X (needR L tRequire s)).1, (exprR X (needR L tEnsure (exprR X (needR L tRequire s)).2)).1, []⟩ : Im), needR L tSemi (exprR X (needR L tEnsure (exprR X (needR L tRequire s)).2)).2)) fun n =>
      (need_ap (by decide)).bd_ (k := fun s => ((⟨4, n, 0, (exprR X s).1, (exprR X (needR L tEnsure (exprR X s).2)).1, []⟩ : Im), needR L tSemi (exprR X (needR L tEnsure (exprR X s).2)).2))
        (hE.bd_ (k := fun e s => ((⟨4, n, 0, e, (exprR X (needR L tEnsure s)).1, []⟩ : Im), needR L tSemi (exprR X (needR L tEnsure s)).2)) fun e =>
          (need_ap (by decide)).bd_ (k := fun s => ((⟨4, n, 0, e, (exprR X s).1, []⟩ : Im), needR L tSemi (exprR X s).2)) (hE.bd_ (k := fun f s => ((⟨4, n, 0, e, f, []⟩ : Im), needR L tSemi s)) fun f => end_ag (by decide) _))).go (i + 1) p hlt
  rw [if_neg h4, if_neg (fun q => h4 ((mark_is (by decide)).1 q))]
  exact ((name_ag hL).bd_ (k := fun n s => ((⟨5, n, 0, [], [], (betweenR L (exprR X) tComma s).1⟩ : Im), needR L tSemi (betweenR L (exprR X) tComma s).2)) fun n =>
    (between_ag hE (by decide)).bd_ (k := fun l s => ((⟨5, n, 0, [], [], l⟩ : Im), needR L tSemi s)) fun l => end_ag (by decide) _).go (i + 1) p hlt
theorem loop_on {f : Nat → Rz α} {g : Rs → α × Rs} {on : Nat → Bool} {on' : Rs → Bool} (ho : ∀ i p, on' ⟨i, 0, p⟩ = on i)
    (h : ∀ i p, on i = true → Gv L p (f i) (g ⟨i, 0, p⟩)) : ∀ k acc i p, on i = true → i ≤ L.length → Gv L p (loopS L (onS f on) k acc i) (manyR L (onR g on') k true acc ⟨i, 0, p⟩)
  | 0, acc, i, p, _, hi => ⟨by decide, acc, i, by simp [manyR, failR], hi⟩
  | k + 1, acc, i, p, hon, hi => by
    have h1 := h i p hon
    unfold loopS manyR onS onR
    simp only [true_and, and_self, if_true]
    cases hf : f i with
    | error e =>
      obtain ⟨c, q⟩ := e
      rw [hf] at h1
      obtain ⟨hc, a, j, h2, h3⟩ := h1
      simp only [bd]
      rw [h2]
      refine ⟨hc, acc ++ [a], j, ?_, h3⟩
      cases k <;> simp [manyR, hc]
    | ok r =>
      obtain ⟨a, j⟩ := r
      rw [hf] at h1
      obtain ⟨h2, h3⟩ := h1
      simp only [bd, rt]
      rw [h2]
      dsimp only
      rw [ho]
      by_cases hj : on j = true
      · rw [hj]
        exact loop_on ho h k (acc ++ [a]) j p hj h3
      · have hj' : on j = false := by simpa using hj
        rw [hj']
        refine ⟨?_, h3⟩
        cases k <;> simp [manyR]
theorem items_ag (hL : ∀ t ∈ L, TokOk t) (hX : XOk L X) : Ag L (itemsS L X) (itemsR L X) := by
  refine Ag.bd_ (f := fun i => manyS L (itemS L X) (isItem L) i) (g := fun s => manyR L (onR (itemR L X) (isItemR L)) 200 (isItemR L s) [] s) (k := fun l s => (l, needR L tEnd s)) ⟨fun i p hi => ?_, fun s hs => ⟨[], by simp [manyR, hs]⟩⟩ fun l => end_ag (by decide) l
  unfold manyS
  rw [isItemR_is]
  by_cases h1 : isItem L i = true
  · rw [if_pos h1, h1]; exact loop_on isItemR_is (fun i p h => item_go hL hX i p h) 200 [] i p h1 hi
  · rw [if_neg h1]
    exact ⟨by simp [manyR, h1], hi⟩
theorem vars_ag (hL : ∀ t ∈ L, TokOk t) : Ag L (varsS L) (varsR L) := loop_ag (var_ag hL) 200 []
theorem con_ag (hL : ∀ t ∈ L, TokOk t) (hX : XOk L X) : Ag L (conS L X) (conR L X) :=
  (name_ag hL).bd_ (k := fun n s => ((⟨true, n, (betweenR L (paramR L) tSemi s).1, ⟨noS, 0⟩, [], [], (itemsR L X (betweenR L (paramR L) tSemi s).2).1⟩ : Un), (itemsR L X (betweenR L (paramR L) tSemi s).2).2)) fun n =>
    (between_ag (param_ag hL) (by decide)).bd_ (k := fun l s => ((⟨true, n, l, ⟨noS, 0⟩, [], [], (itemsR L X s).1⟩ : Un), (itemsR L X s).2)) fun l => (items_ag hL hX).bd_ (k := fun x s => ((⟨true, n, l, ⟨noS, 0⟩, [], [], x⟩ : Un), s)) fun x => ag_ret _
theorem eqs_ag (hL : ∀ t ∈ L, TokOk t) (hX : XOk L X) : Ag L (eqsS L X) (eqsR L X) :=
  (many_ag (eq_ag hL hX) namedR_is).bd_ (k := fun l s => (l, needR L tTel s)) fun l => end_ag (by decide) l
theorem head_ag (hL : ∀ t ∈ L, TokOk t) : Ag L (headS L) (headR L) :=
  (name_ag hL).bd_ (k := fun n s => ((n, (betweenR L (paramR L) tSemi s).1, (paramR L (needR L tLpar (needR L tReturns (betweenR L (paramR L) tSemi s).2))).1), needR L tRpar (paramR L (needR L tLpar (needR L tReturns (betweenR L (paramR L) tSemi s).2))).2)) fun n =>
    (between_ag (param_ag hL) (by decide)).bd_ (k := fun l s => ((n, l, (paramR L (needR L tLpar (needR L tReturns s))).1), needR L tRpar (paramR L (needR L tLpar (needR L tReturns s))).2)) fun l =>
      (need_ap (by decide)).bd_ (k := fun s => ((n, l, (paramR L (needR L tLpar s)).1), needR L tRpar (paramR L (needR L tLpar s)).2)) ((need_ap (by decide)).bd_ (k := fun s => ((n, l, (paramR L s).1), needR L tRpar (paramR L s).2)) ((param_ag hL).bd_ (k := fun o s => ((n, l, o), needR L tRpar s)) fun o => end_ag (by decide) _))
theorem node3_ag (hL : ∀ t ∈ L, TokOk t) (hX : XOk L X) (h : ByteArray × List Pm × Pm) (x : List Im) (v : List Pm) : Ag L (fun i => bd (nd L tLet i) fun _ i => bd (eqsS L X i) fun q i => rt (⟨false, h.1, h.2.1, h.2.2, v, q, x⟩ : Un) i) (nodeR3 L X h x v) :=
  (need_ap (by decide)).bd_ (k := fun s => ((⟨false, h.1, h.2.1, h.2.2, v, (eqsR L X s).1, x⟩ : Un), (eqsR L X s).2)) ((eqs_ag hL hX).bd_ (k := fun q s => ((⟨false, h.1, h.2.1, h.2.2, v, q, x⟩ : Un), s)) fun q => ag_ret _)
theorem node2_ag (hL : ∀ t ∈ L, TokOk t) (hX : XOk L X) (h : ByteArray × List Pm × Pm) (x : List Im) : Ag L (fun i => bd (optS L tVar (varsS L) i) fun v i => bd (nd L tLet i) fun _ i => bd (eqsS L X i) fun q i => rt (⟨false, h.1, h.2.1, h.2.2, v, q, x⟩ : Un) i) (nodeR2 L X h x) :=
  Ag.bd_ (k := fun v s => nodeR3 L X h x v s) (opt_ag (vars_ag hL) (by decide)) (fun v => node3_ag hL hX h x v)
theorem node1_ag (hL : ∀ t ∈ L, TokOk t) (hX : XOk L X) (h : ByteArray × List Pm × Pm) : Ag L (fun i => bd (optS L tContract (itemsS L X) i) fun x i => bd (optS L tVar (varsS L) i) fun v i => bd (nd L tLet i) fun _ i => bd (eqsS L X i) fun q i => rt (⟨false, h.1, h.2.1, h.2.2, v, q, x⟩ : Un) i) (nodeR1 L X h) :=
  Ag.bd_ (k := fun x s => nodeR2 L X h x s) (opt_ag (items_ag hL hX) (by decide)) (fun x => node2_ag hL hX h x)
theorem node_ag (hL : ∀ t ∈ L, TokOk t) (hX : XOk L X) : Ag L (nodeS L X) (nodeR L X) :=
  Ag.bd_ (k := fun h s => nodeR1 L X h s) (head_ag hL) (fun h => node1_ag hL hX h)
theorem unit_ag (hL : ∀ t ∈ L, TokOk t) (hX : XOk L X) : Ag L (unitS L X) (unitR L X) :=
  if_ag (t := tContract) (by decide) (con_ag hL hX) (Ap.bd_ (need_ap (t := tNode) (by decide)) (node_ag hL hX))
theorem back_ag (hL : ∀ t ∈ L, TokOk t) : Ag L (backS L) (backR L) :=
  if_ag (t := tFallback) (by decide) (f' := fun s => ((nameR L s).1, needR L tSemi (nameR L s).2)) ((name_ag hL).bd_ (k := fun b s => (b, needR L tSemi s)) fun b => end_ag (by decide) b) (ag_ret _)
theorem tail2_ag (m b : ByteArray) : Ag L (fun i => if i < L.length then er L 5 i else rt (m, b) i) (tailR2 L m b) := by
  refine ⟨fun i p hi => ?_, fun s hs => ⟨(m, b), ?_⟩⟩
  · unfold tailR2
    by_cases h : i < L.length
    · rw [if_pos h, if_pos h]
      exact ⟨by decide, (m, b), i, by simp [failR], hi⟩
    · rw [if_neg h, if_neg h]
      exact ⟨rfl, hi⟩
  · have : failR L 5 s = s := by unfold failR; rw [if_neg hs]
    unfold tailR2
    rw [this, ite_self]
theorem tail1_ag (hL : ∀ t ∈ L, TokOk t) (m : ByteArray) : Ag L (fun i => bd (nd L tSemi i) fun _ i => bd (backS L i) fun b i => if i < L.length then er L 5 i else rt (m, b) i) (tailR1 L m) :=
  (need_ap (by decide)).bd_ (k := fun s => tailR2 L m (backR L s).1 (backR L s).2) ((back_ag hL).bd_ (k := fun b s => tailR2 L m b s) fun b => tail2_ag m b)
theorem tail_ag (hL : ∀ t ∈ L, TokOk t) : Ag L (tailS L) (tailR L) :=
  (need_ap (by decide)).bd_ (k := fun s => tailR1 L (nameR L s).1 (nameR L s).2) ((name_ag hL).bd_ (k := fun m s => tailR1 L m s) fun m => tail1_ag hL m)
theorem units_ag (hL : ∀ t ∈ L, TokOk t) (hX : XOk L X) : Ag L (fun i => manyS L (unitS L X) (isUnit L) i) (unitsR L X) := many_ag (unit_ag hL hX) isUnitR_is
theorem progZ_go (hL : ∀ t ∈ L, TokOk t) (hX : XOk L X) : Gv L 0 (progZ L X) (progR L X) :=
  (Ag.bd_ (k := fun us s => progR1 L us s) (units_ag hL hX) fun us => (tail_ag hL).bd_ (k := fun t s => ((⟨us, t.1, t.2⟩ : Pg), s)) fun t => ag_ret _).go 0 0 (Nat.zero_le _)
theorem prog_is (hL : ∀ t ∈ L, TokOk t) (hX : XOk L X) : match progS L X with
    | .ok p => (progR L X).1 = p ∧ (progR L X).2.c = 0
    | .error (c, q) => c ≠ 0 ∧ (progR L X).2.c = c ∧ (progR L X).2.p = q := by
  have h := progZ_go hL hX
  unfold progS
  cases hr : progZ L X with
  | error e =>
    obtain ⟨c, q⟩ := e
    rw [hr] at h
    obtain ⟨hc, a, j, h1, -⟩ := h
    rw [h1]
    exact ⟨hc, rfl, rfl⟩
  | ok r =>
    obtain ⟨p, j⟩ := r
    rw [hr] at h
    obtain ⟨h1, -⟩ := h
    rw [h1]
    exact ⟨rfl, rfl⟩
end
end Mx
end Go.Proofs.YtahalimekacliaaGreatDoor
