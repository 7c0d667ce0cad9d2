/- Expressions as lists of nodes, and as trees. Expressions out of tokens: the plain mathematics. More steps; each source has an answer: the plain mathematics. -/
import Derived.Test.YtahalimekacliaaGreatDoorJ1
set_option linter.unusedVariables false
set_option linter.unusedSimpArgs false
namespace Go.Proofs.YtahalimekacliaaGreatDoor
namespace Tx
structure Nd where
  op : Int
  a : Int
  b : Int
  c : Int
  n : Int
  s : ByteArray
instance : DecidableEq Nd := fun x y =>
  decidable_of_iff (x.op = y.op ∧ x.a = y.a ∧ x.b = y.b ∧ x.c = y.c ∧ x.n = y.n ∧ x.s = y.s) (by cases x; cases y; simp)
def kids (x : Nd) : List Int :=
  if x.op = 26 then [x.a, x.b, x.c]
  else if x.op = 28 then (if x.b = -1 then [x.a] else [x.b, x.a])
  else if x.op = 27 then (if x.a = -1 then [] else [x.a])
  else if 6 ≤ x.op ∧ x.op ≤ 20 then [x.a, x.b]
  else if x.op = 4 ∨ x.op = 5 ∨ (21 ≤ x.op ∧ x.op ≤ 25) then [x.a]
  else []
def arB (op : Int) (k : Nat) : Bool :=
  if op = 26 then k == 3
  else if op = 28 then k == 1 || k == 2
  else if op = 27 then k == 0 || k == 1
  else if 6 ≤ op ∧ op ≤ 20 then k == 2
  else if op = 4 ∨ op = 5 ∨ (21 ≤ op ∧ op ≤ 25) then k == 1
  else k == 0
def aim (x : Nd) (l : List Int) : Nd :=
  match l with
  | [] => x
  | [p] => { x with a := p }
  | [p, q] => if x.op = 28 then { x with b := p, a := q } else { x with a := p, b := q }
  | p :: q :: r :: _ => { x with a := p, b := q, c := r }
def leaf (op n : Int) (s : ByteArray) : Nd := ⟨op, -1, -1, -1, n, s⟩
inductive Fo where
  | no
  | tr (op n : Int) (s : ByteArray) (ks : Fo) (r : Fo)
namespace Fo
def size : Fo → Nat
  | no => 0
  | tr _ _ _ ks r => size ks + 1 + size r
def count : Fo → Nat
  | no => 0
  | tr _ _ _ _ r => count r + 1
def depth : Fo → Nat
  | no => 0
  | tr _ _ _ ks r => max (depth ks + 1) (depth r)
def app : Fo → Fo → Fo
  | no, b => b
  | tr op n s ks r, b => tr op n s ks (app r b)
def ends (base : Nat) : Fo → List Int
  | no => []
  | tr _ _ _ ks r => ((base + size ks : Nat) : Int) :: ends (base + size ks + 1) r
def flat (base : Nat) : Fo → List Nd
  | no => []
  | tr op n s ks r => flat base ks ++ aim (leaf op n s) (ends base ks) :: flat (base + size ks + 1) r
theorem flat_len (t : Fo) : ∀ base, (t.flat base).length = t.size := by
  induction t with
  | no => intro _; rfl
  | tr op n s ks r ihk ihr => intro base; simp [flat, size, ihk, ihr]; omega
theorem ends_len (t : Fo) : ∀ base, (t.ends base).length = t.count := by
  induction t with
  | no => intro _; rfl
  | tr op n s ks r _ ihr => intro base; simp [ends, count, ihr]
theorem ends_range (t : Fo) : ∀ (base : Nat) (k : Int), k ∈ t.ends base → (base : Int) ≤ k ∧ k < base + t.size := by
  induction t with
  | no => intro _ k h; simp [ends] at h
  | tr op n s ks r _ ihr =>
    intro base k h
    simp only [ends, List.mem_cons] at h
    simp only [size]
    rcases h with rfl | h
    · omega
    · have := ihr _ k h; omega
theorem app_no (a : Fo) : a.app no = a := by induction a with
  | no => rfl
  | tr op n s ks r _ ih => simp [app, ih]
theorem app_assoc (a b c : Fo) : (a.app b).app c = a.app (b.app c) := by induction a with
  | no => rfl
  | tr op n s ks r _ ih => simp [app, ih]
theorem size_app (a b : Fo) : (a.app b).size = a.size + b.size := by induction a with
  | no => simp [app, size]
  | tr op n s ks r _ ih => simp [app, size, ih]; omega
theorem count_app (a b : Fo) : (a.app b).count = a.count + b.count := by induction a with
  | no => simp [app, count]
  | tr op n s ks r _ ih => simp [app, count, ih]; omega
theorem depth_app (a b : Fo) : (a.app b).depth = max a.depth b.depth := by induction a with
  | no => simp [app, depth]
  | tr op n s ks r _ ih => simp [app, depth, ih, Nat.max_assoc]
theorem ends_app (a b : Fo) : ∀ base, (a.app b).ends base = a.ends base ++ b.ends (base + a.size) := by induction a with
  | no => intro _; simp [app, size, ends]
  | tr op n s ks r _ ih => intro base; simp [app, size, ends, ih]; congr 1; omega
theorem flat_app (a b : Fo) : ∀ base, (a.app b).flat base = a.flat base ++ b.flat (base + a.size) := by induction a with
  | no => intro _; simp [app, size, flat]
  | tr op n s ks r _ ih => intro base; simp [app, size, flat, ih, Nat.add_assoc]
theorem count_zero {a : Fo} (h : a.count = 0) : a = no := by cases a <;> simp [count] at h ⊢
end Fo
def dft : Nd := leaf 0 0 ByteArray.empty
def bareB (x : Nd) : Bool := decide (x = aim (leaf x.op x.n x.s) (kids x))
def plainB (op n : Int) (s : ByteArray) : Bool :=
  (decide (s ≠ ByteArray.empty) == (op == 3 || op == 27)) && decide (0 ≤ n) && decide (n ≤ if op = 1 then 2147483647 else if op = 2 then 1 else if op = 25 then 1000 else 0)
def nodeB (x : Nd) : Bool := decide (1 ≤ x.op) && decide (x.op ≤ 28) && bareB x && plainB x.op x.n x.s
theorem kids_aim {op n : Int} {s : ByteArray} {l : List Int} (ha : arB op l.length = true) (hl : ∀ k ∈ l, k ≠ -1) : kids (aim (leaf op n s) l) = l := by
  unfold arB at ha
  match l with
  | [] =>
    simp only [List.length_nil] at ha
    simp only [aim, kids, leaf]
    repeat' (split at ha)
    all_goals simp_all
    rw [if_neg (by omega), if_neg (by omega)]
  | [p] =>
    simp only [List.length_singleton] at ha
    have := hl p (by simp)
    simp only [aim, kids, leaf]
    repeat' (split at ha)
    all_goals simp_all
  | [p, q] =>
    simp only [List.length_cons, List.length_nil] at ha
    have := hl p (by simp)
    have := hl q (by simp)
    simp only [aim, kids, leaf]
    repeat' (split at ha)
    all_goals simp_all
  | [p, q, r] =>
    simp only [List.length_cons, List.length_nil] at ha
    simp only [aim, kids, leaf]
    repeat' (split at ha)
    all_goals simp_all
  | p :: q :: r :: u :: t =>
    simp only [List.length_cons] at ha
    exfalso
    repeat' (split at ha)
    all_goals simp at ha
theorem kids_ar (x : Nd) : arB x.op (kids x).length = true := by
  unfold arB kids
  repeat' split
  all_goals simp_all
theorem aim_op (x : Nd) (l : List Int) : (aim x l).op = x.op ∧ (aim x l).n = x.n ∧ (aim x l).s = x.s := by
  unfold aim; split <;> try simp
  split <;> simp
theorem bare_aim {op n : Int} {s : ByteArray} {l : List Int} (ha : arB op l.length = true) (hl : ∀ k ∈ l, k ≠ -1) : bareB (aim (leaf op n s) l) = true := by
  unfold bareB
  rw [kids_aim ha hl]
  have := aim_op (leaf op n s) l
  rw [this.1, this.2.1, this.2.2]
  simp [leaf]
def cat : List Fo → Fo
  | [] => .no
  | a :: l => a.app (cat l)
theorem cat_append (a b : List Fo) : cat (a ++ b) = (cat a).app (cat b) := by
  induction a with
  | nil => rfl
  | cons x a ih => simp [cat, ih, Fo.app_assoc]
def tOf (ts : List Fo) (x : Nd) : Fo := .tr x.op x.n x.s (cat ((kids x).map fun k => ts.getD k.toNat .no)) .no
def trees (e : List Nd) : List Fo := e.foldl (fun ts x => ts ++ [tOf ts x]) []
theorem trees_snoc (e : List Nd) (x : Nd) : trees (e ++ [x]) = trees e ++ [tOf (trees e) x] := by simp [trees, List.foldl_append]
theorem snoc_ind {α : Type} {P : List α → Prop} (h0 : P []) (h1 : ∀ l x, P l → P (l ++ [x])) : ∀ l, P l := by
  intro l
  rw [← List.reverse_reverse l]
  induction l.reverse with
  | nil => exact h0
  | cons x l ih => rw [List.reverse_cons]; exact h1 _ _ ih
theorem trees_len (e : List Nd) : (trees e).length = e.length := by
  induction e using snoc_ind with
  | h0 => rfl
  | h1 e x ih => simp [trees_snoc, ih]
theorem trees_app (a b : List Nd) (i : Nat) (hi : i < a.length) : (trees (a ++ b))[i]? = (trees a)[i]? := by
  induction b using snoc_ind with
  | h0 => simp
  | h1 b x ih =>
    rw [← List.append_assoc, trees_snoc, List.getElem?_append_left (by rw [trees_len]; simp; omega), ih]
def T (e : List Nd) (i : Nat) : Fo := (trees e).getD i .no
theorem T_app (a b : List Nd) (i : Nat) (hi : i < a.length) : T (a ++ b) i = T a i := by
  unfold T; rw [List.getD_eq_getElem?_getD, List.getD_eq_getElem?_getD, trees_app a b i hi]
theorem T_snoc (e : List Nd) (x : Nd) : T (e ++ [x]) e.length = tOf (trees e) x := by
  unfold T
  rw [trees_snoc, List.getD_eq_getElem?_getD, List.getElem?_append_right (by rw [trees_len]; exact Nat.le_refl _), trees_len]; simp
def inR (x : Nd) (i : Nat) : Prop := ∀ k ∈ kids x, 0 ≤ k ∧ k < (i : Int)
theorem split_get {α : Type} {e : List α} {i : Nat} {x : α} (h : e[i]? = some x) : e = e.take i ++ x :: e.drop (i + 1) ∧ (e.take i).length = i := by
  have hi := (List.getElem?_eq_some_iff.1 h).1
  refine ⟨?_, by rw [List.length_take]; omega⟩
  have h2 := (List.getElem?_eq_some_iff.1 h).2
  rw [← h2, List.getElem_cons_drop]; exact (List.take_append_drop i e).symm
theorem T_at {e : List Nd} {i : Nat} {x : Nd} (h : e[i]? = some x) (hr : inR x i) : T e i = .tr x.op x.n x.s (cat ((kids x).map fun k => T e k.toNat)) .no := by
  obtain ⟨he, hl⟩ := split_get h
  have e1 : e = (e.take i ++ [x]) ++ e.drop (i + 1) := by rw [List.append_assoc]; exact he
  have h1 : T e i = T (e.take i ++ [x]) i := by
    conv => lhs; rw [e1]
    exact T_app _ _ i (by simp [hl])
  have h2 : T (e.take i ++ [x]) i = tOf (trees (e.take i)) x := by
    have := T_snoc (e.take i) x
    rwa [hl] at this
  rw [h1, h2]
  unfold tOf
  congr 2
  apply List.map_congr_left
  intro k hk
  have hk2 := hr k hk
  have h3 : T e k.toNat = T (e.take i) k.toNat := by
    conv => lhs; rw [he]
    exact T_app _ _ _ (by rw [hl]; omega)
  rw [h3]; rfl
def argsB (op : Int) (l : List Int) : Bool :=
  if op = 27 then l.all (fun p => p == 28)
  else if op = 28 then (match l with | [p, q] => p == 28 && q != 28 | l => l.all (fun p => p != 28))
  else l.all (fun p => p != 28)
namespace Fo
def ops : Fo → List Int
  | no => []
  | tr op _ _ _ r => op :: ops r
theorem ops_app (a b : Fo) : (a.app b).ops = a.ops ++ b.ops := by induction a with
  | no => rfl
  | tr op n s ks r _ ih => simp [app, ops, ih]
theorem ops_len (a : Fo) : a.ops.length = a.count := by induction a with
  | no => rfl
  | tr op n s ks r _ ih => simp [ops, count, ih]
def wf : Fo → Bool
  | no => true
  | tr op n s ks r => decide (1 ≤ op) && decide (op ≤ 28) && arB op ks.count && plainB op n s && argsB op ks.ops && wf ks && wf r
theorem wf_app (a b : Fo) : (a.app b).wf = (a.wf && b.wf) := by induction a with
  | no => simp [app, wf]
  | tr op n s ks r _ ih => simp [app, wf, ih, Bool.and_assoc]
end Fo
theorem ends_ne (t : Fo) (base : Nat) : ∀ k ∈ t.ends base, k ≠ -1 := fun k hk => by have := t.ends_range base k hk; omega
theorem cat_ends (F : Fo) : ∀ (pre post : List Nd), F.wf = true → cat ((F.ends pre.length).map fun k => T (pre ++ F.flat pre.length ++ post) k.toNat) = F := by
  induction F with
  | no => intro _ _ _; rfl
  | tr op n s ks r ihk ihr =>
    intro pre post hw
    simp only [Fo.wf, Bool.and_eq_true] at hw
    obtain ⟨⟨⟨⟨⟨⟨h1, h2⟩, h3⟩, h4⟩, h5⟩, h6⟩, h7⟩ := hw
    have hk := ihk pre (aim (leaf op n s) (ks.ends pre.length) :: (r.flat (pre.length + ks.size + 1) ++ post)) h6
    have hr := ihr (pre ++ (ks.flat pre.length ++ [aim (leaf op n s) (ks.ends pre.length)])) post h7
    have hlen : (pre ++ (ks.flat pre.length ++ [aim (leaf op n s) (ks.ends pre.length)])).length = pre.length + ks.size + 1 := by simp [Fo.flat_len]; omega
    have e1 : pre ++ ks.flat pre.length ++ aim (leaf op n s) (ks.ends pre.length) :: (r.flat (pre.length + ks.size + 1) ++ post) = pre ++ (Fo.tr op n s ks r).flat pre.length ++ post := by
      simp [Fo.flat]
    rw [hlen] at hr
    have e2 : pre ++ (ks.flat pre.length ++ [aim (leaf op n s) (ks.ends pre.length)]) ++ r.flat (pre.length + ks.size + 1) ++ post = pre ++ (Fo.tr op n s ks r).flat pre.length ++ post := by
      simp [Fo.flat]
    rw [e1] at hk
    rw [e2] at hr
    generalize hE : pre ++ (Fo.tr op n s ks r).flat pre.length ++ post = E at hk hr
    have hx : E[pre.length + ks.size]? = some (aim (leaf op n s) (ks.ends pre.length)) := by
      rw [← hE, ← e1, List.getElem?_append_right (by simp [Fo.flat_len])]
      simp [Fo.flat_len]
    have hkid : kids (aim (leaf op n s) (ks.ends pre.length)) = ks.ends pre.length := kids_aim (by rw [Fo.ends_len]; exact h3) (ends_ne ks _)
    have hT := T_at hx (fun k hk2 => by
      rw [hkid] at hk2
      have := ks.ends_range _ k hk2
      omega)
    rw [hkid, hk] at hT
    have h8 := aim_op (leaf op n s) (ks.ends pre.length)
    rw [h8.1, h8.2.1, h8.2.2] at hT
    simp only [Fo.ends, List.map_cons, cat]
    rw [show ((pre.length + ks.size : Nat) : Int).toNat = pre.length + ks.size by omega, hT, hr]
    rfl
theorem T_flat (F : Fo) (pre post : List Nd) (hw : F.wf = true) (hc : F.count = 1) : T (pre ++ F.flat pre.length ++ post) (pre.length + F.size - 1) = F := by
  have h := cat_ends F pre post hw
  cases F with
  | no => simp [Fo.count] at hc
  | tr op n s ks r =>
    simp only [Fo.count] at hc
    obtain rfl := Fo.count_zero (a := r) (by omega)
    simp only [Fo.ends, List.map_cons, List.map_nil, cat, Fo.app_no] at h
    simp only [Fo.size]
    rw [show pre.length + (ks.size + 1 + 0) - 1 = ((pre.length + ks.size : Nat) : Int).toNat by omega]
    exact h
def allK (e : List Nd) : List Int := e.flatMap kids
def argsOk (e : List Nd) (x : Nd) : Bool := argsB x.op ((kids x).map fun k => (e.getD k.toNat dft).op)
def depOf (ds : List Nat) (x : Nd) : Nat := ((kids x).foldl (fun (m : Nat) (k : Int) => if 0 ≤ k ∧ k < (ds.length : Int) then max m (ds.getD k.toNat 0) else m) 0) + 1
def deps (e : List Nd) : List Nat := e.foldl (fun ds x => ds ++ [depOf ds x]) []
def depL (e : List Nd) : Nat := (deps e).getLastD 0
def nodesB (e : List Nd) : Bool := (List.range e.length).all fun i => nodeB (e.getD i dft) && (kids (e.getD i dft)).all (fun k => decide (0 ≤ k) && decide (k < (i : Int))) && argsOk e (e.getD i dft)
def mayB (e : List Nd) : Bool :=
  decide (1 ≤ e.length) && decide (e.length ≤ 5000) && (e.getLastD dft).op != 28 && nodesB e && (List.range (e.length - 1)).all (fun i => (allK e).count (i : Int) == 1) && decide (depL e ≤ 40)
def NodeP (e : List Nd) : Prop := ∀ i x, e[i]? = some x → nodeB x = true ∧ inR x i ∧ argsOk e x = true
structure MayP (e : List Nd) : Prop where
  ne : 1 ≤ e.length
  len : e.length ≤ 5000
  last : (e.getLastD dft).op ≠ 28
  node : NodeP e
  used : ∀ i, i + 1 < e.length → (allK e).count (i : Int) = 1
  deep : depL e ≤ 40
theorem nodesB_iff (e : List Nd) : nodesB e = true ↔ NodeP e := by
  unfold nodesB NodeP
  rw [List.all_eq_true]
  constructor
  · intro h i x hx
    have hi := (List.getElem?_eq_some_iff.1 hx).1
    have := h i (List.mem_range.2 hi)
    rw [List.getD_eq_getElem?_getD, hx] at this
    simp only [Option.getD_some, Bool.and_eq_true, List.all_eq_true, decide_eq_true_eq] at this
    exact ⟨this.1.1, fun k hk => this.1.2 k hk, this.2⟩
  · intro h i hi
    have hi := List.mem_range.1 hi
    obtain ⟨a, b, c⟩ := h i _ (List.getElem?_eq_getElem hi)
    rw [List.getD_eq_getElem?_getD, List.getElem?_eq_getElem hi]
    simp only [Option.getD_some, Bool.and_eq_true, List.all_eq_true, decide_eq_true_eq]
    exact ⟨⟨a, fun k hk => b k hk⟩, c⟩
theorem mayB_iff (e : List Nd) : mayB e = true ↔ MayP e := by
  unfold mayB
  simp only [Bool.and_eq_true, decide_eq_true_eq, bne_iff_ne, List.all_eq_true, beq_iff_eq, nodesB_iff, List.mem_range]
  constructor
  · rintro ⟨⟨⟨⟨⟨h1, h2⟩, h3⟩, h4⟩, h5⟩, h6⟩
    exact ⟨h1, h2, h3, h4, fun i hi => h5 i (by omega), h6⟩
  · rintro ⟨h1, h2, h3, h4, h5, h6⟩
    exact ⟨⟨⟨⟨⟨h1, h2⟩, h3⟩, h4⟩, fun i hi => h5 i (by omega)⟩, h6⟩
theorem deps_snoc (e : List Nd) (x : Nd) : deps (e ++ [x]) = deps e ++ [depOf (deps e) x] := by simp [deps, List.foldl_append]
theorem deps_len (e : List Nd) : (deps e).length = e.length := by
  induction e using snoc_ind with
  | h0 => rfl
  | h1 e x ih => simp [deps_snoc, ih]
theorem deps_app (a b : List Nd) (i : Nat) (hi : i < a.length) : (deps (a ++ b))[i]? = (deps a)[i]? := by
  induction b using snoc_ind with
  | h0 => simp
  | h1 b x ih =>
    rw [← List.append_assoc, deps_snoc, List.getElem?_append_left (by rw [deps_len]; simp; omega), ih]
def sumF (L : List Int) (f : Nat → Nat) : Nat → Nat
  | 0 => 0
  | n + 1 => sumF L f n + if (n : Int) ∈ L then 0 else f n
theorem sumF_far (L : List Int) (k : Int) (f : Nat → Nat) : ∀ n : Nat, (n : Int) ≤ k → sumF (L ++ [k]) f n = sumF L f n
  | 0, _ => rfl
  | n + 1, h => by
    simp only [sumF, sumF_far L k f n (by omega), List.mem_append, List.mem_singleton]
    have : ¬ (n : Int) = k := by omega
    simp only [this, or_false]
theorem sumF_one (L : List Int) (k : Nat) (f : Nat → Nat) (hk : (k : Int) ∉ L) : ∀ n : Nat, k < n → sumF (L ++ [(k : Int)]) f n + f k = sumF L f n
  | 0, h => by omega
  | n + 1, h => by
    simp only [sumF, List.mem_append, List.mem_singleton]
    by_cases e : k = n
    · subst e
      rw [sumF_far L k f k (Int.le_refl _), if_pos (Or.inr rfl), if_neg hk]; omega
    · have h2 : ¬ (n : Int) = (k : Int) := by omega
      have := sumF_one L k f hk n (by omega)
      simp only [h2, or_false]; omega
theorem sumF_more (f : Nat → Nat) (n : Nat) : ∀ (l L : List Int), (∀ k ∈ l, 0 ≤ k ∧ k < (n : Int)) → (L ++ l).Nodup → sumF (L ++ l) f n + (l.map fun k => f k.toNat).sum = sumF L f n
  | [], L, _, _ => by simp
  | k :: l, L, h, hn => by
    have hk := h k (by simp)
    obtain ⟨j, rfl⟩ : ∃ j : Nat, k = (j : Int) := ⟨k.toNat, by omega⟩
    have e : L ++ (j : Int) :: l = (L ++ [(j : Int)]) ++ l := by simp
    rw [e] at hn ⊢
    have h1 := sumF_more f n l (L ++ [(j : Int)]) (fun k hk => h k (by simp [hk])) hn
    have hj : (j : Int) ∉ L := by
      intro hm
      rw [List.append_assoc, List.nodup_append] at hn
      exact hn.2.2 _ hm _ (by simp) rfl
    have h2 := sumF_one L j f hj n (by omega)
    simp only [List.map_cons, List.sum_cons, Int.toNat_natCast]; omega
theorem sumF_congr (L : List Int) (f g : Nat → Nat) : ∀ n : Nat, (∀ i : Nat, i < n → f i = g i) → sumF L f n = sumF L g n
  | 0, _ => rfl
  | n + 1, h => by rw [sumF, sumF, sumF_congr L f g n (fun i hi => h i (by omega)), h n (by omega)]
theorem sumF_none (L : List Int) (f : Nat → Nat) : ∀ n : Nat, (∀ i : Nat, i < n → (i : Int) ∈ L) → sumF L f n = 0
  | 0, _ => rfl
  | n + 1, h => by rw [sumF, sumF_none L f n (fun i hi => h i (by omega)), if_pos (h n (by omega))]
theorem size_cat (l : List Fo) : (cat l).size = (l.map Fo.size).sum := by
  induction l with
  | nil => rfl
  | cons a l ih => simp [cat, Fo.size_app, ih]
theorem allK_snoc (e : List Nd) (x : Nd) : allK (e ++ [x]) = allK e ++ kids x := by simp [allK]
def InR (e : List Nd) : Prop := ∀ i x, e[i]? = some x → inR x i
theorem InR.left {a b : List Nd} (h : InR (a ++ b)) : InR a := fun i x hx => h i x (by rw [List.getElem?_append_left (List.getElem?_eq_some_iff.1 hx).1]; exact hx)
theorem InR.lt {e : List Nd} (h : InR e) : ∀ k ∈ allK e, 0 ≤ k ∧ k + 1 < (e.length : Int) := by
  intro k hk
  unfold allK at hk
  obtain ⟨x, hx, hk⟩ := List.mem_flatMap.1 hk
  obtain ⟨i, hi⟩ := List.getElem?_of_mem hx
  have h1 := h i x hi k hk
  have h2 := (List.getElem?_eq_some_iff.1 hi).1
  omega
theorem sum_sizes (e : List Nd) : InR e → (allK e).Nodup → sumF (allK e) (fun i => (T e i).size) e.length = e.length := by
  induction e using snoc_ind with
  | h0 => intro _ _; rfl
  | h1 e x ih =>
    intro h hn
    have hL := h.left
    rw [allK_snoc] at hn ⊢
    have ih := ih hL (by rw [List.nodup_append] at hn; exact hn.1)
    have hx := h e.length x (by simp)
    have hlast : (e.length : Int) ∉ allK e ++ kids x := by
      intro hm
      rcases List.mem_append.1 hm with hm | hm
      · have := hL.lt _ hm; omega
      · have := hx _ hm; omega
    have e1 : (e ++ [x]).length = e.length + 1 := by simp
    rw [e1, sumF, if_neg hlast]
    rw [sumF_congr _ _ (fun i => (T e i).size) e.length (fun i hi => by rw [T_app e [x] i hi])]
    have h1 := sumF_more (fun i => (T e i).size) e.length (kids x) (allK e) (fun k hk => hx k hk) hn
    have h2 := T_at (e := e ++ [x]) (i := e.length) (x := x) (by simp) hx
    rw [h2]
    have h3 : ((kids x).map fun k => T (e ++ [x]) k.toNat) = (kids x).map fun k => T e k.toNat := by
      apply List.map_congr_left
      intro k hk
      exact T_app e [x] _ (by have := hx k hk; omega)
    rw [h3]
    simp only [Fo.size, size_cat, List.map_map]
    have h4 : ((kids x).map (Fo.size ∘ fun k => T e k.toNat)).sum = ((kids x).map fun k => (T e k.toNat).size).sum := rfl
    rw [h4]; omega
theorem MayP.inR {e : List Nd} (h : MayP e) : InR e := fun i x hx => (h.node i x hx).2.1
theorem MayP.nodup {e : List Nd} (h : MayP e) : (allK e).Nodup := by
  rw [List.nodup_iff_count]
  intro k
  by_cases hk : k ∈ allK e
  · have h1 := h.inR.lt k hk
    obtain ⟨j, rfl⟩ : ∃ j : Nat, k = (j : Int) := ⟨k.toNat, by omega⟩
    rw [h.used j (by omega)]; exact Nat.le_refl _
  · rw [List.count_eq_zero.2 hk]; omega
theorem take_snoc' {e : List Nd} {i : Nat} {x : Nd} (h : e[i]? = some x) : e.take (i + 1) = e.take i ++ [x] := by rw [List.take_add_one, h]; rfl
theorem MayP.size {e : List Nd} (h : MayP e) : (T e (e.length - 1)).size = e.length := by
  have h1 := sum_sizes e h.inR h.nodup
  obtain ⟨n, hn⟩ : ∃ n, e.length = n + 1 := ⟨e.length - 1, by have := h.ne; omega⟩
  rw [hn] at h1 ⊢
  rw [sumF, sumF_none _ _ n (fun i hi => by
    have := h.used i (by omega)
    exact List.count_pos_iff.1 (by omega)), if_neg (fun hm => by have := h.inR.lt _ hm; omega)] at h1
  simpa using h1
theorem depth_cat (l : List Fo) : (cat l).depth = l.foldl (fun m t => max m t.depth) 0 := by
  have : ∀ (l : List Fo) (m : Nat), l.foldl (fun m t => max m t.depth) m = max m (cat l).depth := by
    intro l
    induction l with
    | nil => intro m; simp [cat, Fo.depth]
    | cons a l ih => intro m; simp only [List.foldl_cons, ih, cat, Fo.depth_app]; omega
  rw [this]; omega
theorem foldl_same {α β : Type} (f g : β → α → β) : ∀ (l : List α) (b : β), (∀ b, ∀ x ∈ l, f b x = g b x) → l.foldl f b = l.foldl g b
  | [], _, _ => rfl
  | x :: l, b, h => by
    simp only [List.foldl_cons, h b x (by simp)]
    exact foldl_same f g l _ (fun b y hy => h b y (by simp [hy]))
theorem deps_T (e : List Nd) : InR e → deps e = (List.range e.length).map fun i => (T e i).depth := by
  induction e using snoc_ind with
  | h0 => intro _; rfl
  | h1 e x ih =>
    intro h
    have hx := h e.length x (by simp)
    have e1 : (e ++ [x]).length = e.length + 1 := by simp
    rw [deps_snoc, e1, List.range_succ, List.map_append, ih h.left]
    congr 1
    · apply List.map_congr_left
      intro i hi
      rw [T_app e [x] i (List.mem_range.1 hi)]
    · have h2 := T_at (e := e ++ [x]) (i := e.length) (x := x) (by simp) hx
      simp only [List.map_cons, List.map_nil, List.cons.injEq, and_true]
      rw [h2]
      simp only [Fo.depth, depth_cat, List.foldl_map, Nat.max_zero, depOf]
      congr 1
      apply foldl_same
      intro m k hk
      have hk2 := hx k hk
      rw [if_pos ⟨hk2.1, by simpa using hk2.2⟩, List.getD_eq_getElem?_getD, List.getElem?_map, List.getElem?_range (by omega)]
      simp only [Option.map_some, Option.getD_some]
      rw [T_app e [x] _ (by omega)]
theorem depL_T {e : List Nd} (h : InR e) (hne : 1 ≤ e.length) : depL e = (T e (e.length - 1)).depth := by
  unfold depL
  rw [deps_T e h]
  obtain ⟨n, hn⟩ : ∃ n, e.length = n + 1 := ⟨e.length - 1, by omega⟩
  rw [hn, List.range_succ]; simp
theorem ops_cat (l : List Fo) : (cat l).ops = l.flatMap Fo.ops := by
  induction l with
  | nil => rfl
  | cons a l ih => simp [cat, Fo.ops_app, ih]
theorem wf_cat (l : List Fo) : (cat l).wf = l.all Fo.wf := by
  induction l with
  | nil => rfl
  | cons a l ih => simp [cat, Fo.wf_app, ih]
theorem T_ops {e : List Nd} (h : InR e) {i : Nat} {x : Nd} (hx : e[i]? = some x) : (T e i).ops = [x.op] ∧ (T e i).count = 1 := by
  rw [T_at hx (h i x hx)]; simp [Fo.ops, Fo.count]
theorem T_wf {e : List Nd} (h : NodeP e) : ∀ i, i < e.length → (T e i).wf = true := by
  intro i
  induction i using Nat.strongRecOn with
  | _ i ih =>
    intro hi
    have hR : InR e := fun i x hx => (h i x hx).2.1
    obtain ⟨x, hx⟩ : ∃ x, e[i]? = some x := ⟨_, List.getElem?_eq_getElem hi⟩
    obtain ⟨h1, h2, h3⟩ := h i x hx
    have hk : ∀ k ∈ kids x, ∃ y, e[k.toNat]? = some y := fun k hk => ⟨_, List.getElem?_eq_getElem (by have := h2 k hk; omega)⟩
    have hops : (cat ((kids x).map fun k => T e k.toNat)).ops = (kids x).map fun k => (e.getD k.toNat dft).op := by
      rw [ops_cat, List.flatMap_map]
      have : ∀ l : List Int, (∀ k ∈ l, k ∈ kids x) → l.flatMap (fun k => (T e k.toNat).ops) = l.map fun k => (e.getD k.toNat dft).op := by
        intro l
        induction l with
        | nil => intro _; rfl
        | cons k l ihl =>
          intro hl
          obtain ⟨y, hy⟩ := hk k (hl k (by simp))
          rw [List.flatMap_cons, List.map_cons, ihl (fun k hk => hl k (by simp [hk])), (T_ops hR hy).1, List.getD_eq_getElem?_getD, hy]; rfl
      exact this _ (fun _ h => h)
    rw [T_at hx h2]
    unfold nodeB at h1
    simp only [Bool.and_eq_true, decide_eq_true_eq] at h1
    simp only [Fo.wf, Bool.and_eq_true, decide_eq_true_eq, hops, wf_cat, List.all_map]
    refine ⟨⟨⟨⟨⟨⟨h1.1.1.1, h1.1.1.2⟩, ?_⟩, h1.2⟩, h3⟩, ?_⟩, trivial⟩
    · rw [← Fo.ops_len, hops, List.length_map]; exact kids_ar x
    · rw [List.all_eq_true]
      intro k hk2
      have := h2 k hk2
      exact ih k.toNat (by omega) (by omega)
theorem ends_ops (F : Fo) : ∀ (pre post : List Nd), ((F.ends pre.length).map fun k => ((pre ++ F.flat pre.length ++ post).getD k.toNat dft).op) = F.ops := by
  induction F with
  | no => intro _ _; rfl
  | tr op n s ks r _ ihr =>
    intro pre post
    have hr := ihr (pre ++ (ks.flat pre.length ++ [aim (leaf op n s) (ks.ends pre.length)])) post
    have hlen : (pre ++ (ks.flat pre.length ++ [aim (leaf op n s) (ks.ends pre.length)])).length = pre.length + ks.size + 1 := by simp [Fo.flat_len]; omega
    rw [hlen] at hr
    have e2 : pre ++ (ks.flat pre.length ++ [aim (leaf op n s) (ks.ends pre.length)]) ++ r.flat (pre.length + ks.size + 1) ++ post = pre ++ (Fo.tr op n s ks r).flat pre.length ++ post := by
      simp [Fo.flat]
    rw [e2] at hr
    simp only [Fo.ends, List.map_cons, Fo.ops, hr, List.cons.injEq, and_true]
    have h1 : (pre ++ (Fo.tr op n s ks r).flat pre.length ++ post)[((pre.length + ks.size : Nat) : Int).toNat]? = some (aim (leaf op n s) (ks.ends pre.length)) := by
      rw [← e2, show ((pre.length + ks.size : Nat) : Int).toNat = pre.length + ks.size by omega, List.append_assoc, List.append_assoc, List.getElem?_append_right (by omega), Nat.add_sub_cancel_left, List.append_assoc, List.getElem?_append_right (by simp [Fo.flat_len])]
      simp [Fo.flat_len]
    rw [List.getD_eq_getElem?_getD, h1]
    exact (aim_op _ _).1
theorem flat_node (F : Fo) : ∀ (pre post : List Nd), F.wf = true → ∀ i x, (F.flat pre.length)[i]? = some x → nodeB x = true ∧ inR x (pre.length + i) ∧ argsOk (pre ++ F.flat pre.length ++ post) x = true := by
  induction F with
  | no => intro _ _ _ i x h; simp [Fo.flat] at h
  | tr op n s ks r ihk ihr =>
    intro pre post hw i x hx
    simp only [Fo.wf, Bool.and_eq_true, decide_eq_true_eq] at hw
    obtain ⟨⟨⟨⟨⟨⟨h1, h2⟩, h3⟩, h4⟩, h5⟩, h6⟩, h7⟩ := hw
    have hlen : (pre ++ (ks.flat pre.length ++ [aim (leaf op n s) (ks.ends pre.length)])).length = pre.length + ks.size + 1 := by simp [Fo.flat_len]; omega
    have e1 : pre ++ ks.flat pre.length ++ aim (leaf op n s) (ks.ends pre.length) :: (r.flat (pre.length + ks.size + 1) ++ post) = pre ++ (Fo.tr op n s ks r).flat pre.length ++ post := by
      simp [Fo.flat]
    have e2 : pre ++ (ks.flat pre.length ++ [aim (leaf op n s) (ks.ends pre.length)]) ++ r.flat (pre.length + ks.size + 1) ++ post = pre ++ (Fo.tr op n s ks r).flat pre.length ++ post := by
      simp [Fo.flat]
    rw [Fo.flat] at hx
    rcases Nat.lt_trichotomy i ks.size with hi | hi | hi
    · rw [List.getElem?_append_left (by rw [Fo.flat_len]; exact hi)] at hx
      have := ihk pre (aim (leaf op n s) (ks.ends pre.length) :: (r.flat (pre.length + ks.size + 1) ++ post)) h6 i x hx
      rw [e1] at this; exact this
    · subst hi
      rw [List.getElem?_append_right (by rw [Fo.flat_len]; exact Nat.le_refl _), Fo.flat_len] at hx
      simp only [Nat.sub_self, List.getElem?_cons_zero, Option.some.injEq] at hx
      subst hx
      have har : arB op (ks.ends pre.length).length = true := by rw [Fo.ends_len]; exact h3
      have hk : kids (aim (leaf op n s) (ks.ends pre.length)) = ks.ends pre.length := kids_aim har (ends_ne ks _)
      have h8 := aim_op (leaf op n s) (ks.ends pre.length)
      refine ⟨?_, ?_, ?_⟩
      · unfold nodeB
        rw [h8.1, h8.2.1, h8.2.2, bare_aim har (ends_ne ks _)]
        have h9 : (leaf op n s).op = op := rfl
        have h10 : (leaf op n s).n = n := rfl
        have h11 : (leaf op n s).s = s := rfl
        rw [h9, h10, h11, h4, decide_eq_true h1, decide_eq_true h2]; rfl
      · intro k hk2
        rw [hk] at hk2
        have := ks.ends_range _ k hk2; omega
      · unfold argsOk
        rw [hk, h8.1]
        have := ends_ops ks pre (aim (leaf op n s) (ks.ends pre.length) :: (r.flat (pre.length + ks.size + 1) ++ post))
        rw [e1] at this
        rw [this]; exact h5
    · rw [List.getElem?_append_right (by rw [Fo.flat_len]; omega), Fo.flat_len] at hx
      obtain ⟨j, hj⟩ : ∃ j, i - ks.size = j + 1 := ⟨i - ks.size - 1, by omega⟩
      rw [hj, List.getElem?_cons_succ] at hx
      have := ihr (pre ++ (ks.flat pre.length ++ [aim (leaf op n s) (ks.ends pre.length)])) post h7 j x (by rw [hlen]; exact hx)
      rw [hlen, e2] at this
      rw [show pre.length + i = pre.length + ks.size + 1 + j by omega]; exact this
theorem flat_count (F : Fo) : ∀ (base : Nat) (j : Int), F.wf = true → (allK (F.flat base)).count j + (F.ends base).count j = if (base : Int) ≤ j ∧ j < base + F.size then 1 else 0 := by
  induction F with
  | no => intro base j _; rw [if_neg (by simp only [Fo.size]; omega)]; simp [Fo.flat, Fo.ends, allK]
  | tr op n s ks r ihk ihr =>
    intro base j hw
    simp only [Fo.wf, Bool.and_eq_true, decide_eq_true_eq] at hw
    obtain ⟨⟨⟨⟨⟨⟨h1, h2⟩, h3⟩, h4⟩, h5⟩, h6⟩, h7⟩ := hw
    have har : arB op (ks.ends base).length = true := by rw [Fo.ends_len]; exact h3
    have hk : kids (aim (leaf op n s) (ks.ends base)) = ks.ends base := kids_aim har (ends_ne ks _)
    have a := ihk base j h6
    have b := ihr (base + ks.size + 1) j h7
    have e : allK (Fo.flat base (Fo.tr op n s ks r)) = allK (ks.flat base) ++ (ks.ends base ++ allK (r.flat (base + ks.size + 1))) := by
      simp only [Fo.flat, allK, List.flatMap_append, List.flatMap_cons, hk]
    rw [e]
    have hsz : ((Fo.tr op n s ks r).size : Int) = ks.size + 1 + r.size := by simp only [Fo.size]; omega
    rw [hsz]
    simp only [List.count_append, Fo.ends, List.count_cons, beq_iff_eq]
    by_cases h9 : (base : Int) ≤ j ∧ j < base + ks.size
    · rw [if_pos h9] at a
      rw [if_neg (by omega)] at b
      rw [if_neg (by omega), if_pos (by omega)]; omega
    · rw [if_neg h9] at a
      by_cases h10 : ((base + ks.size : Nat) : Int) = j
      · rw [if_neg (by omega)] at b
        rw [if_pos h10, if_pos (by omega)]; omega
      · rw [if_neg h10]
        by_cases h11 : ((base + ks.size + 1 : Nat) : Int) ≤ j ∧ j < (base + ks.size + 1 : Nat) + r.size
        · rw [if_pos h11] at b
          rw [if_pos (by omega)]; omega
        · rw [if_neg h11] at b
          rw [if_neg (by omega)]; omega
theorem ends_one {F : Fo} (hc : F.count = 1) (base : Nat) : F.ends base = [((base + F.size - 1 : Nat) : Int)] := by
  cases F with
  | no => simp [Fo.count] at hc
  | tr op n s ks r =>
    simp only [Fo.count] at hc
    obtain rfl := Fo.count_zero (a := r) (by omega)
    simp only [Fo.ends, Fo.size]
    congr 1
theorem flat_last {F : Fo} (hc : F.count = 1) (base : Nat) : F.ops = [((F.flat base).getLastD dft).op] := by
  cases F with
  | no => simp [Fo.count] at hc
  | tr op n s ks r =>
    simp only [Fo.count] at hc
    obtain rfl := Fo.count_zero (a := r) (by omega)
    simp only [Fo.ops, Fo.flat, List.cons.injEq, and_true]
    rw [List.getLastD_eq_getLast?, List.getLast?_append]
    simp only [List.getLast?_singleton, Option.some_or, Option.getD_some]
    exact (aim_op (leaf op n s) (ks.ends base)).1.symm
theorem flat_NodeP {F : Fo} (hw : F.wf = true) : NodeP (F.flat 0) := fun i x hx => by
  have := flat_node F [] [] hw i x hx
  simpa using this
theorem T_flat0 {F : Fo} (hw : F.wf = true) (hc : F.count = 1) : T (F.flat 0) (F.size - 1) = F := by
  have := T_flat F [] [] hw hc
  simpa using this
theorem one_size {F : Fo} (hc : F.count = 1) : 1 ≤ F.size := by
  cases F with
  | no => simp [Fo.count] at hc
  | tr op n s ks r => simp [Fo.size]; omega
def okF (F : Fo) : Bool := decide (F.size ≤ 5000) && decide (F.depth ≤ 40) && decide (F.ops ≠ [28])
theorem may_flat {F : Fo} (hw : F.wf = true) (hc : F.count = 1) : mayB (F.flat 0) = okF F := by
  have hs := one_size hc
  have hN := flat_NodeP hw
  have hR : InR (F.flat 0) := fun i x hx => (hN i x hx).2.1
  have hd : depL (F.flat 0) = F.depth := by
    rw [depL_T hR (by rw [Fo.flat_len]; exact hs), Fo.flat_len, T_flat0 hw hc]
  have hl := flat_last hc 0
  rw [Bool.eq_iff_iff, mayB_iff]
  unfold okF
  simp only [Bool.and_eq_true, decide_eq_true_eq, hl]
  constructor
  · rintro ⟨h1, h2, h3, h4, h5, h6⟩
    exact ⟨⟨by rw [Fo.flat_len] at h2; exact h2, by rw [← hd]; exact h6⟩, by simpa using h3⟩
  · rintro ⟨⟨h1, h2⟩, h3⟩
    refine ⟨by rw [Fo.flat_len]; exact hs, by rw [Fo.flat_len]; exact h1, by simpa using h3, hN, fun i hi => ?_, by rw [hd]; exact h2⟩
    rw [Fo.flat_len] at hi
    have := flat_count F 0 (i : Int) hw
    rw [if_pos (by omega), ends_one hc, List.count_cons, List.count_nil, if_neg (by simp; omega)] at this
    omega
theorem MayP.tree {e : List Nd} (h : MayP e) : (T e (e.length - 1)).wf = true ∧ (T e (e.length - 1)).count = 1 ∧ okF (T e (e.length - 1)) = true := by
  have hn := h.ne
  have hi : e.length - 1 < e.length := by omega
  obtain ⟨x, hx⟩ : ∃ x, e[e.length - 1]? = some x := ⟨_, List.getElem?_eq_getElem hi⟩
  have h1 := T_ops h.inR hx
  refine ⟨T_wf h.node _ hi, h1.2, ?_⟩
  have h2 := h.last
  have h3 : e.getLastD dft = x := by rw [List.getLastD_eq_getLast?, List.getLast?_eq_getElem?, hx]; rfl
  rw [h3] at h2
  unfold okF
  simp only [Bool.and_eq_true, decide_eq_true_eq, h1.1]
  exact ⟨⟨by rw [h.size]; exact h.len, by rw [← depL_T h.inR hn]; exact h.deep⟩, by simpa using h2⟩
def mv (d : Nat) (x : Nd) : Nd := { x with a := if 0 ≤ x.a then x.a + d else x.a, b := if 0 ≤ x.b then x.b + d else x.b, c := if 0 ≤ x.c then x.c + d else x.c }
theorem mv_aim (d : Nat) (op n : Int) (s : ByteArray) (l : List Int) (hl : ∀ k ∈ l, 0 ≤ k) : mv d (aim (leaf op n s) l) = aim (leaf op n s) (l.map (· + (d : Int))) := by
  match l with
  | [] => simp [mv, aim, leaf]
  | [p] =>
    have := hl p (by simp)
    simp [mv, aim, leaf, this]
  | [p, q] =>
    have := hl p (by simp)
    have := hl q (by simp)
    by_cases h : op = 28 <;> simp [mv, aim, leaf, *]
  | p :: q :: r :: t =>
    have := hl p (by simp)
    have := hl q (by simp)
    have := hl r (by simp)
    simp [mv, aim, leaf, *]
theorem ends_mv (F : Fo) (d : Nat) : ∀ base, (F.ends base).map (· + (d : Int)) = F.ends (base + d) := by
  induction F with
  | no => intro _; rfl
  | tr op n s ks r _ ihr =>
    intro base
    simp only [Fo.ends, List.map_cons, ihr]
    rw [show base + d + ks.size + 1 = base + ks.size + 1 + d by omega]
    congr 1; omega
theorem flat_mv (F : Fo) (d : Nat) : ∀ base, (F.flat base).map (mv d) = F.flat (base + d) := by
  induction F with
  | no => intro _; rfl
  | tr op n s ks r ihk ihr =>
    intro base
    simp only [Fo.flat, List.map_append, List.map_cons, ihk, ihr]
    rw [mv_aim d op n s _ (fun k hk => by have := ks.ends_range _ k hk; omega), ends_mv, show base + d + ks.size + 1 = base + ks.size + 1 + d by omega]
def behind (out e : List Nd) : List Nd := out ++ e.map (mv out.length)
theorem behind_flat (A F : Fo) : behind (A.flat 0) (F.flat 0) = (A.app F).flat 0 := by
  unfold behind; rw [flat_mv, Fo.flat_app, Fo.flat_len]
def chain : Fo → List Fo → Fo
  | acc, [] => acc
  | acc, F :: r => chain (.tr 28 0 ByteArray.empty (acc.app F) .no) r
def joinF (op n : Int) (s : ByteArray) (l : List Fo) : Fo := .tr op n s (if op = 27 then chain .no l else cat l) .no
theorem chain_snoc (F : Fo) : ∀ (l : List Fo) (acc : Fo), chain acc (l ++ [F]) = .tr 28 0 ByteArray.empty ((chain acc l).app F) .no := by
  intro l
  induction l with
  | nil => intro _; rfl
  | cons a l ih => intro acc; exact ih _
theorem cat_snoc (F : Fo) (l : List Fo) : cat (l ++ [F]) = (cat l).app F := by rw [cat_append]; simp [cat, Fo.app_no]
theorem count_cat (l : List Fo) (h : ∀ F ∈ l, F.count = 1) : (cat l).count = l.length := by
  induction l with
  | nil => rfl
  | cons a l ih => simp [cat, Fo.count_app, ih (fun F hF => h F (by simp [hF])), h a (by simp)]; omega
theorem chain_count (l : List Fo) : (chain .no l).count = if l = [] then 0 else 1 := by
  induction l using snoc_ind with
  | h0 => rfl
  | h1 l F _ => rw [chain_snoc]; simp [Fo.count]
theorem kids_leaf (op n : Int) (s : ByteArray) : (kids (leaf op n s)).length = if op = 26 then 3 else if op = 28 then 1 else if op = 27 then 0 else if 6 ≤ op ∧ op ≤ 20 then 2 else if op = 4 ∨ op = 5 ∨ (21 ≤ op ∧ op ≤ 25) then 1 else 0 := by
  unfold kids leaf
  simp only []
  repeat' (split <;> try rfl)
  all_goals simp_all
end Tx
end Go.Proofs.YtahalimekacliaaGreatDoor
namespace Go.Proofs.YtahalimekacliaaGreatDoor
namespace Px
open Tx
def bs (l : List UInt8) : ByteArray := ⟨l.toArray⟩
def atP (L : List Tok) (i : Nat) : Int := match L[i]? with
  | some t => t.p
  | none => -1
def hereT (L : List Tok) (i : Nat) : Option ByteArray := match L[i]? with
  | some t => if t.k = 3 ∨ t.k = 4 then some t.t else none
  | none => none
def isT (L : List Tok) (i : Nat) (s : ByteArray) : Bool := decide (hereT L i = some s)
def opAt (n : Nat) (s : ByteArray) : Option (Int × Bool) :=
  match n with
  | 0 => if s = bs [45, 62] then some (19, false) else none
  | 1 => if s = bs [61, 62] then some (9, false) else none
  | 2 => if s = bs [115, 105, 110, 99, 101] then some (20, false) else none
  | 3 => if s = bs [111, 114] then some (7, false) else if s = bs [120, 111, 114] then some (8, false) else none
  | 4 => if s = bs [97, 110, 100] then some (6, false) else none
  | 5 => if s = bs [61] then some (10, false) else if s = bs [60, 62] then some (11, false) else if s = bs [60] then some (12, false) else if s = bs [60, 61] then some (13, false) else if s = bs [62] then some (12, true) else if s = bs [62, 61] then some (13, true) else none
  | 6 => if s = bs [43] then some (14, false) else if s = bs [45] then some (15, false) else none
  | 7 => if s = bs [42] then some (16, false) else if s = bs [100, 105, 118] then some (17, false) else if s = bs [109, 111, 100] then some (18, false) else none
  | _ => none
def preAt (s : ByteArray) : Option Int :=
  if s = bs [110, 111, 116] then some 4 else if s = bs [45] then some 5 else if s = bs [112, 114, 101] then some 21 else if s = bs [111, 110, 99, 101] then some 22
  else if s = bs [104, 105, 115, 116] then some 23 else if s = bs [112, 114, 101, 118] then some 24 else if s = bs [119, 105, 116, 104, 105, 110] then some 25 else none
inductive Tag where
  | bin (n : Nat)
  | loop (n : Nat) (a : Fo)
  | args (l : List Fo)
abbrev Res := Except (Int × Int) (List Fo × Nat)
abbrev Orc := Tag → Nat → Nat → Option Res
def thenE (r : Option Res) (f : Fo → Nat → Option Res) : Option Res := match r with
  | none => none
  | some (.error e) => some (.error e)
  | some (.ok ([a], i)) => f a i
  | some (.ok (_, _)) => none
def errAt (L : List Tok) (c : Int) (i : Nat) : Option Res := some (.error (c, atP L i))
def needT (L : List Tok) (s : ByteArray) (i : Nat) (f : Nat → Option Res) : Option Res := if isT L i s then f (i + 1) else errAt L 5 i
def tLpar := bs [40]
def tRpar := bs [41]
def tComma := bs [44]
def tIf := bs [105, 102]
def tThen := bs [116, 104, 101, 110]
def tElse := bs [101, 108, 115, 101]
def tTrue := bs [116, 114, 117, 101]
def tFalse := bs [102, 97, 108, 115, 101]
def node (op n : Int) (s : ByteArray) (ks : Fo) : Fo := .tr op n s ks .no
def noS : ByteArray := ByteArray.empty
def one (F : Fo) (i : Nat) : Option Res := some (.ok ([F], i))
def signS (p : Orc) (L : List Tok) (s : ByteArray) (I o : Nat) : Option Res :=
  match preAt s with
  | some op =>
    if op = 25 then
      match L[I + 1]? with
      | some u => if u.k = 2 ∧ Lx.val u.t.data.toList ≤ 1000 then thenE (p (.bin 8) (I + 2) (o + 1)) fun a i => one (node 25 (Lx.val u.t.data.toList) noS a) i else errAt L 5 (I + 1)
      | none => errAt L 5 (I + 1)
    else thenE (p (.bin 8) (I + 1) (o + 1)) fun a i => one (node op 0 noS a) i
  | none =>
    if s = tTrue then one (node 2 1 noS .no) (I + 1)
    else if s = tFalse then one (node 2 0 noS .no) (I + 1)
    else if s = tLpar then thenE (p (.bin 0) (I + 1) (o + 1)) fun a i => needT L tRpar i fun i => one a i
    else if s = tIf then
      thenE (p (.bin 0) (I + 1) (o + 1)) fun a i => needT L tThen i fun i => thenE (p (.bin 0) i (o + 1)) fun b i => needT L tElse i fun i => thenE (p (.bin 0) i (o + 1)) fun c i => one (node 26 0 noS (a.app (b.app c))) i
    else errAt L 5 I
def callS (name : ByteArray) (r : Option Res) : Option Res := match r with
  | none => none
  | some (.error e) => some (.error e)
  | some (.ok (l, i)) => one (joinF 27 0 name l) i
def operandS (p : Orc) (L : List Tok) (I o : Nat) : Option Res :=
  if 200 ≤ o then errAt L 6 I
  else match L[I]? with
    | none => errAt L 5 I
    | some t =>
      if t.k = 2 then one (node 1 (Lx.val t.t.data.toList) noS .no) (I + 1)
      else if t.k = 1 then
        if isT L (I + 1) tLpar then
          if isT L (I + 2) tRpar then one (joinF 27 0 t.t []) (I + 3)
          else callS t.t (p (.args []) (I + 2) (o + 1))
        else one (node 3 0 t.t .no) (I + 1)
      else if t.k = 3 ∨ t.k = 4 then signS p L t.t I o
      else errAt L 5 I
def stepP (L : List Tok) (p : Orc) : Orc
  | .bin n, I, o => if n < 8 then thenE (p (.bin (n + 1)) I o) fun a i => p (.loop n a) i o else operandS p L I o
  | .loop n a, I, o => match (hereT L I).bind (opAt n) with
    | none => one a I
    | some (op, sw) => thenE (p (.bin (if n ≤ 1 then n else n + 1)) (I + 1) o) fun b i =>
        if n ≤ 1 ∨ n = 5 then one (node op 0 noS (if sw then b.app a else a.app b)) i else p (.loop n (node op 0 noS (if sw then b.app a else a.app b))) i o
  | .args l, I, o => thenE (p (.bin 0) I o) fun a i => if isT L i tRpar then some (.ok (l ++ [a], i + 1)) else if isT L i tComma then p (.args (l ++ [a])) (i + 1) o else errAt L 5 i
def P (L : List Tok) : Nat → Orc
  | 0 => fun _ _ _ => none
  | f + 1 => stepP L (P L f)
def parse (L : List Tok) (f from_ : Nat) : Option (Except (Int × Int) (Fo × Nat)) := match P L f (.bin 0) from_ 0 with
  | some (.error e) => some (.error e)
  | some (.ok ([F], i)) => some (if 5000 < F.size then .error (7, atP L from_) else if 40 < F.depth then .error (6, atP L from_) else .ok (F, i))
  | _ => none
structure TokOk (t : Tok) : Prop where
  num : t.k = 2 → t.t.data.toList.all Lx.isDig = true ∧ Lx.val t.t.data.toList ≤ 2147483647 ∧ t.t.size ≤ 10 ∧ t.t.data.toList ≠ []
  name : t.k = 1 → t.t ≠ ByteArray.empty
structure Good (F : Fo) : Prop where
  wf : F.wf = true
  one : F.count = 1
  ops : F.ops.all (fun p => p != 28) = true
theorem hereT_lt {L : List Tok} {i : Nat} {s : ByteArray} (h : hereT L i = some s) : i < L.length := by
  unfold hereT at h
  split at h
  · rename_i t ht; exact (List.getElem?_eq_some_iff.1 ht).1
  · cases h
theorem isT_lt {L : List Tok} {i : Nat} {s : ByteArray} (h : isT L i s = true) : i < L.length := hereT_lt (by simpa [isT] using h)
def ResOk (L : List Tok) (I : Nat) (have_ : List Fo) (r : Res) : Prop := match r with
  | .error _ => True
  | .ok (l, i) => (∀ F ∈ l, Good F) ∧ I ≤ i ∧ i ≤ L.length ∧ (cat l).size + l.length ≤ (cat have_).size + have_.length + 3 * (i - I)
theorem opAt_is {n : Nat} {s : ByteArray} {op : Int} {sw : Bool} (h : opAt n s = some (op, sw)) : 6 ≤ op ∧ op ≤ 20 := by
  unfold opAt at h
  repeat' (split at h)
  all_goals first | (cases h; done) | (simp only [Option.some.injEq, Prod.mk.injEq] at h; omega)
theorem preAt_is {s : ByteArray} {op : Int} (h : preAt s = some op) : op = 4 ∨ op = 5 ∨ (21 ≤ op ∧ op ≤ 25) := by
  unfold preAt at h
  repeat' (split at h)
  all_goals first | (cases h; done) | (simp only [Option.some.injEq] at h; omega)
theorem good_two {op : Int} {a b : Fo} (ho : 6 ≤ op ∧ op ≤ 20) (ha : Good a) (hb : Good b) : Good (node op 0 noS (a.app b)) := by
  refine ⟨?_, rfl, ?_⟩
  · simp only [node, Fo.wf, Bool.and_eq_true, decide_eq_true_eq, Fo.count_app, ha.one, hb.one, Fo.wf_app, ha.wf, hb.wf, Fo.ops_app]
    refine ⟨⟨⟨⟨⟨⟨by omega, by omega⟩, ?_⟩, ?_⟩, ?_⟩, trivial, trivial⟩, trivial⟩
    · unfold arB; rw [if_neg (by omega), if_neg (by omega), if_neg (by omega), if_pos ho]; rfl
    · have h1 : (op == 3) = false := by rw [beq_eq_false_iff_ne]; omega
      have h2 : (op == 27) = false := by rw [beq_eq_false_iff_ne]; omega
      have h3 : ¬ op = 1 := by omega
      have h4 : ¬ op = 2 := by omega
      have h5 : ¬ op = 25 := by omega
      unfold plainB noS; rw [h1, h2, if_neg h3, if_neg h4, if_neg h5]; rfl
    · unfold argsB; rw [if_neg (by omega), if_neg (by omega), List.all_append, ha.ops, hb.ops]; rfl
  · simp [node, Fo.ops]; omega
theorem good_one {op n : Int} {a : Fo} (ho : op = 4 ∨ op = 5 ∨ (21 ≤ op ∧ op ≤ 25)) (hn : 0 ≤ n ∧ n ≤ if op = 25 then 1000 else 0) (ha : Good a) : Good (node op n noS a) := by
  refine ⟨?_, rfl, ?_⟩
  · simp only [node, Fo.wf, Bool.and_eq_true, decide_eq_true_eq, ha.one, ha.wf]
    refine ⟨⟨⟨⟨⟨⟨by omega, by omega⟩, ?_⟩, ?_⟩, ?_⟩, trivial⟩, trivial⟩
    · unfold arB; rw [if_neg (by omega), if_neg (by omega), if_neg (by omega), if_neg (by omega), if_pos ho]; rfl
    · have h1 : (op == 3) = false := by rw [beq_eq_false_iff_ne]; omega
      have h2 : (op == 27) = false := by rw [beq_eq_false_iff_ne]; omega
      have h3 : ¬ op = 1 := by omega
      have h4 : ¬ op = 2 := by omega
      unfold plainB noS; rw [h1, h2, if_neg h3, if_neg h4, decide_eq_true hn.1, decide_eq_true hn.2]; rfl
    · unfold argsB; rw [if_neg (by omega), if_neg (by omega)]; exact ha.ops
  · simp [node, Fo.ops]; omega
theorem good_three {a b c : Fo} (ha : Good a) (hb : Good b) (hc : Good c) : Good (node 26 0 noS (a.app (b.app c))) := by
  refine ⟨?_, rfl, rfl⟩
  simp only [node, Fo.wf, Bool.and_eq_true, decide_eq_true_eq, Fo.count_app, ha.one, hb.one, hc.one, Fo.wf_app, ha.wf, hb.wf, hc.wf, Fo.ops_app]
  refine ⟨⟨⟨⟨⟨⟨by omega, by omega⟩, rfl⟩, rfl⟩, ?_⟩, trivial, trivial, trivial⟩, trivial⟩
  unfold argsB; rw [if_neg (by omega), if_neg (by omega), List.all_append, List.all_append, ha.ops, hb.ops, hc.ops]; rfl
theorem chain_wf : ∀ (l : List Fo), (∀ F ∈ l, Good F) → (chain .no l).wf = true ∧ (chain .no l).ops.all (fun p => p == 28) = true := by
  intro l
  induction l using snoc_ind with
  | h0 => intro _; exact ⟨rfl, rfl⟩
  | h1 l F ih =>
    intro h
    obtain ⟨i1, i2⟩ := ih (fun G hG => h G (by simp [hG]))
    have hF := h F (by simp)
    have hc := chain_count l
    rw [chain_snoc]
    refine ⟨?_, rfl⟩
    simp only [Fo.wf, Bool.and_eq_true, decide_eq_true_eq, Fo.count_app, hF.one, Fo.wf_app, hF.wf, i1, Fo.ops_app, hc]
    have hops : ∃ p, F.ops = [p] ∧ p ≠ 28 := by
      have h1 := hF.ops
      have h2 := Fo.ops_len F
      rw [hF.one] at h2
      match hq : F.ops, h2 with
      | [p], _ => rw [hq] at h1; exact ⟨p, rfl, by simpa using h1⟩
    obtain ⟨p, hp, hp2⟩ := hops
    refine ⟨⟨⟨⟨⟨⟨by omega, by omega⟩, ?_⟩, rfl⟩, ?_⟩, trivial, trivial⟩, trivial⟩
    · split <;> rfl
    · rw [hp]
      by_cases hl : l = []
      · subst hl; simp [chain, Fo.ops, argsB, hp2]
      · rw [if_neg hl] at hc
        have h3 := Fo.ops_len (chain .no l)
        rw [hc] at h3
        match hq : (chain .no l).ops, h3 with
        | [q], _ =>
          rw [hq] at i2
          simp at i2; subst i2
          simp [argsB, hp2]
theorem chain_size (l : List Fo) : (chain .no l).size = (cat l).size + l.length := by
  induction l using snoc_ind with
  | h0 => rfl
  | h1 l F ih => rw [chain_snoc, cat_snoc]; simp [Fo.size, Fo.size_app, ih]; omega
theorem good_call {s : ByteArray} {l : List Fo} (hs : s ≠ ByteArray.empty) (h : ∀ F ∈ l, Good F) : Good (joinF 27 0 s l) := by
  obtain ⟨h1, h2⟩ := chain_wf l h
  refine ⟨?_, rfl, rfl⟩
  simp only [joinF, if_true, Fo.wf, Bool.and_eq_true, decide_eq_true_eq, h1, chain_count]
  refine ⟨⟨⟨⟨⟨⟨by omega, by omega⟩, ?_⟩, ?_⟩, ?_⟩, trivial⟩, trivial⟩
  · split <;> rfl
  · unfold plainB; simp [hs]
  · unfold argsB; rw [if_pos rfl]; exact h2
theorem good_leaf {op n : Int} {s : ByteArray} (h : (op = 1 ∧ 0 ≤ n ∧ n ≤ 2147483647 ∧ s = noS) ∨ (op = 2 ∧ 0 ≤ n ∧ n ≤ 1 ∧ s = noS) ∨ (op = 3 ∧ n = 0 ∧ s ≠ ByteArray.empty)) : Good (node op n s .no) := by
  rcases h with ⟨rfl, h1, h2, rfl⟩ | ⟨rfl, h1, h2, rfl⟩ | ⟨rfl, rfl, h1⟩
  · refine ⟨?_, rfl, rfl⟩
    simp [node, Fo.wf, arB, Fo.count, plainB, argsB, Fo.ops, noS, h1, h2]
  · refine ⟨?_, rfl, rfl⟩
    simp [node, Fo.wf, arB, Fo.count, plainB, argsB, Fo.ops, noS, h1, h2]
  · refine ⟨?_, rfl, rfl⟩
    simp [node, Fo.wf, arB, Fo.count, plainB, argsB, Fo.ops, h1]
def Tag.have_ : Tag → List Fo
  | .bin _ => []
  | .loop _ a => [a]
  | .args l => l
theorem thenE_some {r : Option Res} {f : Fo → Nat → Option Res} {q : Res} (h : thenE r f = some q) : (∃ e, r = some (.error e) ∧ q = .error e) ∨ ∃ a i, r = some (.ok ([a], i)) ∧ f a i = some q := by
  unfold thenE at h
  split at h
  · cases h
  · rename_i e
    exact Or.inl ⟨e, rfl, (Option.some.inj h).symm⟩
  · rename_i a i
    exact Or.inr ⟨a, i, rfl, h⟩
  · cases h
theorem needT_some {L : List Tok} {s : ByteArray} {i : Nat} {f : Nat → Option Res} {q : Res} (h : needT L s i f = some q) : q = .error (5, atP L i) ∨ (isT L i s = true ∧ f (i + 1) = some q) := by
  unfold needT errAt at h
  split at h
  · rename_i h1; exact Or.inr ⟨h1, h⟩
  · exact Or.inl (Option.some.inj h).symm
theorem ok_one {L : List Tok} {I i : Nat} {F : Fo} {H : List Fo} (hF : Good F) (h1 : I ≤ i) (h2 : i ≤ L.length) (h3 : F.size + 1 ≤ (cat H).size + H.length + 3 * (i - I)) : ResOk L I H (.ok ([F], i)) :=
  ⟨fun G hG => by rw [List.mem_singleton.1 hG]; exact hF, h1, h2, by simp [cat, Fo.app_no]; omega⟩
theorem one_some {F : Fo} {i : Nat} {q : Res} (h : one F i = some q) : q = .ok ([F], i) := (Option.some.inj h).symm
def OrcOk (L : List Tok) (p : Orc) : Prop := ∀ (g : Tag) (I o : Nat) (r : Res), I ≤ L.length → (∀ F ∈ g.have_, Good F) → p g I o = some r → ResOk L I g.have_ r
theorem OrcOk.bin {L : List Tok} {p : Orc} (h : OrcOk L p) {n I o i : Nat} {a : Fo} (hI : I ≤ L.length) (hp : p (.bin n) I o = some (.ok ([a], i))) : Good a ∧ I ≤ i ∧ i ≤ L.length ∧ a.size + 1 ≤ 3 * (i - I) := by
  obtain ⟨h1, h2, h3, h4⟩ := h (.bin n) I o _ hI (fun F hF => by simp [Tag.have_] at hF) hp
  refine ⟨h1 a (by simp), h2, h3, ?_⟩
  simpa [cat, Fo.app_no, Tag.have_, Fo.size] using h4
theorem sign_ok {L : List Tok} {p : Orc} (h : OrcOk L p) {s : ByteArray} {I o : Nat} {q : Res} (hI : I < L.length) (hq : signS p L s I o = some q) : ResOk L I [] q := by
  unfold signS at hq
  split at hq
  · rename_i op hop
    split at hq
    · split at hq
      · rename_i u hu
        have hu2 := (List.getElem?_eq_some_iff.1 hu).1
        split at hq
        · rename_i h25 hk
          rcases thenE_some hq with ⟨e, _, rfl⟩ | ⟨a, i, h1, h2⟩
          · trivial
          · obtain ⟨g1, g2, g3, g4⟩ := h.bin (by omega) h1
            rw [one_some h2]
            exact ok_one (good_one (Or.inr (Or.inr ⟨by omega, by omega⟩)) ⟨by omega, by simp; omega⟩ g1) (by omega) g3 (by simp [node, cat, Fo.size]; omega)
        · cases hq; trivial
      · cases hq; trivial
    · rename_i h25
      rcases thenE_some hq with ⟨e, _, rfl⟩ | ⟨a, i, h1, h2⟩
      · trivial
      · obtain ⟨g1, g2, g3, g4⟩ := h.bin (by omega) h1
        rw [one_some h2]
        exact ok_one (good_one (preAt_is hop) ⟨by omega, by rw [if_neg h25]; omega⟩ g1) (by omega) g3 (by simp [node, cat, Fo.size]; omega)
  · split at hq
    · rw [one_some hq]; exact ok_one (good_leaf (Or.inr (Or.inl ⟨rfl, by omega, by omega, rfl⟩))) (by omega) (by omega) (by simp [node, cat, Fo.size])
    split at hq
    · rw [one_some hq]; exact ok_one (good_leaf (Or.inr (Or.inl ⟨rfl, by omega, by omega, rfl⟩))) (by omega) (by omega) (by simp [node, cat, Fo.size])
    split at hq
    · rcases thenE_some hq with ⟨e, _, rfl⟩ | ⟨a, i, h1, h2⟩
      · trivial
      · obtain ⟨g1, g2, g3, g4⟩ := h.bin (by omega) h1
        rcases needT_some h2 with rfl | ⟨h3, h4⟩
        · trivial
        · have := isT_lt h3
          rw [one_some h4]; exact ok_one g1 (by omega) (by omega) (by simp [cat, Fo.size]; omega)
    split at hq
    · rcases thenE_some hq with ⟨e, _, rfl⟩ | ⟨a, i, h1, h2⟩
      · trivial
      obtain ⟨g1, g2, g3, g4⟩ := h.bin (by omega) h1
      rcases needT_some h2 with rfl | ⟨h3, h4⟩
      · trivial
      have hi := isT_lt h3
      rcases thenE_some h4 with ⟨e, _, rfl⟩ | ⟨b, j, k1, k2⟩
      · trivial
      obtain ⟨e1, e2, e3, e4⟩ := h.bin (by omega) k1
      rcases needT_some k2 with rfl | ⟨k3, k4⟩
      · trivial
      have hj := isT_lt k3
      rcases thenE_some k4 with ⟨e, _, rfl⟩ | ⟨c, m, l1, l2⟩
      · trivial
      obtain ⟨f1, f2, f3, f4⟩ := h.bin (by omega) l1
      rw [one_some l2]
      exact ok_one (good_three g1 e1 f1) (by omega) f3 (by simp [node, cat, Fo.size, Fo.size_app]; omega)
    · cases hq; trivial
theorem call_ok {L : List Tok} {s : ByteArray} {I : Nat} {r : Option Res} {q : Res} (hs : s ≠ ByteArray.empty) (hr : ∀ x, r = some x → ResOk L (I + 2) [] x) (hq : callS s r = some q) : ResOk L I [] q := by
  unfold callS at hq
  split at hq
  · cases hq
  · cases hq; trivial
  · rename_i l i
    obtain ⟨h1, h2, h3, h4⟩ := hr _ rfl
    rw [one_some hq]
    refine ok_one (good_call hs h1) (by omega) h3 ?_
    simp only [joinF, if_true, Fo.size, chain_size, cat, List.length_nil] at h4 ⊢
    omega
theorem operand_ok {L : List Tok} (hL : ∀ t ∈ L, TokOk t) {p : Orc} (h : OrcOk L p) {I o : Nat} {q : Res} (hq : operandS p L I o = some q) : ResOk L I [] q := by
  unfold operandS at hq
  split at hq
  · cases hq; trivial
  split at hq
  · cases hq; trivial
  rename_i t ht
  have hI := (List.getElem?_eq_some_iff.1 ht).1
  have hT := hL t (List.mem_of_getElem? ht)
  split at hq
  · rename_i hk
    rw [one_some hq]
    exact ok_one (good_leaf (Or.inl ⟨rfl, by omega, by have := (hT.num hk).2.1; omega, rfl⟩)) (by omega) (by omega) (by simp [node, cat, Fo.size])
  split at hq
  · rename_i hk
    have hn := hT.name hk
    split at hq
    · rename_i h1
      have h1 := isT_lt h1
      split at hq
      · rename_i h2
        have h2 := isT_lt h2
        rw [one_some hq]
        exact ok_one (good_call hn (fun F hF => by simp at hF)) (by omega) (by omega) (by simp [joinF, chain, cat, Fo.size])
      · exact call_ok hn (fun x hx => h (.args []) (I + 2) (o + 1) x (by omega) (fun F hF => by simp [Tag.have_] at hF) hx) hq
    · rw [one_some hq]
      exact ok_one (good_leaf (Or.inr (Or.inr ⟨rfl, rfl, hn⟩))) (by omega) (by omega) (by simp [node, cat, Fo.size])
  split at hq
  · exact sign_ok h hI hq
  · cases hq; trivial
theorem step_ok {L : List Tok} (hL : ∀ t ∈ L, TokOk t) {p : Orc} (h : OrcOk L p) : OrcOk L (stepP L p) := by
  intro g I o r hI hg hr
  cases g with
  | bin n =>
    simp only [stepP] at hr
    split at hr
    · rcases thenE_some hr with ⟨e, _, rfl⟩ | ⟨a, i, h1, h2⟩
      · trivial
      obtain ⟨g1, g2, g3, g4⟩ := h.bin hI h1
      have h5 := h (.loop n a) i o r g3 (fun F hF => by simp [Tag.have_] at hF; rw [hF]; exact g1) h2
      cases r with
      | error e => trivial
      | ok x =>
        obtain ⟨l, j⟩ := x
        obtain ⟨k1, k2, k3, k4⟩ := h5
        refine ⟨k1, by omega, k3, ?_⟩
        simp only [Tag.have_, cat, Fo.app_no, List.length_singleton, List.length_nil, Fo.size] at k4 ⊢
        omega
    · exact operand_ok hL h hr
  | loop n a =>
    have ha := hg a (by simp [Tag.have_])
    simp only [stepP] at hr
    split at hr
    · rw [one_some hr]; exact ok_one ha (Nat.le_refl _) hI (by simp [Tag.have_, cat, Fo.app_no])
    · rename_i op sw hop
      obtain ⟨s, hs, hop⟩ := Option.bind_eq_some_iff.1 hop
      have hlt := hereT_lt hs
      have ho := opAt_is hop
      rcases thenE_some hr with ⟨e, _, rfl⟩ | ⟨b, i, h1, h2⟩
      · trivial
      obtain ⟨g1, g2, g3, g4⟩ := h.bin (by omega) h1
      have hgood : Good (node op 0 noS (if sw then b.app a else a.app b)) := by
        cases sw
        · exact good_two ho ha g1
        · exact good_two ho g1 ha
      have hsz : (node op 0 noS (if sw then b.app a else a.app b)).size = a.size + b.size + 1 := by
        cases sw <;> simp [node, Fo.size, Fo.size_app] <;> omega
      split at h2
      · rw [one_some h2]; exact ok_one hgood (by omega) g3 (by rw [hsz]; simp [Tag.have_, cat, Fo.app_no]; omega)
      · have h5 := h _ i o r g3 (fun F hF => by simp only [Tag.have_, List.mem_singleton] at hF; rw [hF]; exact hgood) h2
        cases r with
        | error e => trivial
        | ok x =>
          obtain ⟨l, j⟩ := x
          obtain ⟨k1, k2, k3, k4⟩ := h5
          refine ⟨k1, by omega, k3, ?_⟩
          simp only [Tag.have_, cat, Fo.app_no, List.length_singleton, hsz] at k4 ⊢
          omega
  | args l =>
    simp only [Tag.have_] at hg
    simp only [stepP] at hr
    rcases thenE_some hr with ⟨e, _, rfl⟩ | ⟨a, i, h1, h2⟩
    · trivial
    obtain ⟨g1, g2, g3, g4⟩ := h.bin hI h1
    have hall : ∀ F ∈ l ++ [a], Good F := fun F hF => by
      rcases List.mem_append.1 hF with hF | hF
      · exact hg F hF
      · rw [List.mem_singleton.1 hF]; exact g1
    split at h2
    · rename_i h3
      have h3 := isT_lt h3
      cases h2
      refine ⟨hall, by omega, by omega, ?_⟩
      simp only [Tag.have_, cat_snoc, Fo.size_app, List.length_append, List.length_singleton]; omega
    split at h2
    · rename_i h3
      have h3 := isT_lt h3
      have h5 := h (.args (l ++ [a])) (i + 1) o r (by omega) hall h2
      cases r with
      | error e => trivial
      | ok x =>
        obtain ⟨m, j⟩ := x
        obtain ⟨k1, k2, k3, k4⟩ := h5
        refine ⟨k1, by omega, k3, ?_⟩
        simp only [Tag.have_, cat_snoc, Fo.size_app, List.length_append, List.length_singleton] at k4 ⊢
        omega
    · cases h2; trivial
theorem P_ok {L : List Tok} (hL : ∀ t ∈ L, TokOk t) : ∀ f, OrcOk L (P L f)
  | 0 => fun _ _ _ _ _ _ h => by cases h
  | f + 1 => step_ok hL (P_ok hL f)
def Le (p q : Orc) : Prop := ∀ g I o r, p g I o = some r → q g I o = some r
end Px
end Go.Proofs.YtahalimekacliaaGreatDoor
namespace Go.Proofs.YtahalimekacliaaGreatDoor
namespace Px
open Tx
theorem thenE_le {r r' : Option Res} {f f' : Fo → Nat → Option Res} (hr : ∀ x, r = some x → r' = some x) (hf : ∀ a i x, f a i = some x → f' a i = some x) : ∀ x, thenE r f = some x → thenE r' f' = some x := by
  intro x h
  rcases thenE_some h with ⟨e, h1, rfl⟩ | ⟨a, i, h1, h2⟩
  · rw [hr _ h1]; rfl
  · rw [hr _ h1]; exact hf _ _ _ h2
theorem needT_le {L : List Tok} {s : ByteArray} {i : Nat} {f f' : Nat → Option Res} (hf : ∀ i x, f i = some x → f' i = some x) : ∀ x, needT L s i f = some x → needT L s i f' = some x := by
  intro x h
  unfold needT at h ⊢
  split at h
  · rename_i h1; rw [if_pos h1]; exact hf _ _ h
  · rename_i h1; rw [if_neg h1]; exact h
theorem callS_le {s : ByteArray} {r r' : Option Res} (hr : ∀ x, r = some x → r' = some x) : ∀ x, callS s r = some x → callS s r' = some x := by
  intro x h
  cases hq : r with
  | none => rw [hq] at h; cases h
  | some y => rw [hr y hq]; rw [hq] at h; exact h
theorem sign_le {L : List Tok} {p q : Orc} (h : Le p q) (s : ByteArray) (I o : Nat) : ∀ x, signS p L s I o = some x → signS q L s I o = some x := by
  intro x hx
  unfold signS at hx ⊢
  split at hx
  · rename_i op hop
    split at hx
    · rename_i h25
      rw [if_pos h25]
      split at hx
      · rename_i u hu
        split at hx
        · rename_i h3; rw [if_pos h3]; exact thenE_le (h _ _ _) (fun _ _ _ h => h) _ hx
        · rename_i h3; rw [if_neg h3]; exact hx
      · exact hx
    · rename_i h25
      rw [if_neg h25]; exact thenE_le (h _ _ _) (fun _ _ _ h => h) _ hx
  · split at hx
    · rename_i h1; rw [if_pos h1]; exact hx
    rename_i h1; rw [if_neg h1]
    split at hx
    · rename_i h1; rw [if_pos h1]; exact hx
    rename_i h1; rw [if_neg h1]
    split at hx
    · rename_i h1; rw [if_pos h1]; exact thenE_le (h _ _ _) (fun _ _ _ h => h) _ hx
    rename_i h1; rw [if_neg h1]
    split at hx
    · rename_i h1; rw [if_pos h1]
      exact thenE_le (h _ _ _) (fun a i x => needT_le (fun i x => thenE_le (h _ _ _) (fun b i x => needT_le (fun i x => thenE_le (h _ _ _) (fun _ _ _ h => h) x) x) x) x) _ hx
    · rename_i h1; rw [if_neg h1]; exact hx
theorem step_le {L : List Tok} {p q : Orc} (h : Le p q) : Le (stepP L p) (stepP L q) := by
  intro g I o x hx
  cases g with
  | bin n =>
    simp only [stepP] at hx ⊢
    split at hx
    · rename_i h1; rw [if_pos h1]; exact thenE_le (h _ _ _) (fun a i x => h _ _ _ x) _ hx
    · rename_i h1; rw [if_neg h1]
      unfold operandS at hx ⊢
      split at hx
      · rename_i h2; rw [if_pos h2]; exact hx
      rename_i h2; rw [if_neg h2]
      split at hx
      · exact hx
      split at hx
      · rename_i h3; rw [if_pos h3]; exact hx
      rename_i h3; rw [if_neg h3]
      split at hx
      · rename_i h4; rw [if_pos h4]
        split at hx
        · rename_i h5; rw [if_pos h5]
          split at hx
          · rename_i h6; rw [if_pos h6]; exact hx
          · rename_i h6; rw [if_neg h6]; exact callS_le (h _ _ _) _ hx
        · rename_i h5; rw [if_neg h5]; exact hx
      rename_i h4; rw [if_neg h4]
      split at hx
      · rename_i h5; rw [if_pos h5]; exact sign_le h _ _ _ _ hx
      · rename_i h5; rw [if_neg h5]; exact hx
  | loop n a =>
    simp only [stepP] at hx ⊢
    split at hx
    · exact hx
    · refine thenE_le (h _ _ _) (fun b i x hx => ?_) _ hx
      split at hx
      · rename_i h1; rw [if_pos h1]; exact hx
      · rename_i h1; rw [if_neg h1]; exact h _ _ _ _ hx
  | args l =>
    simp only [stepP] at hx ⊢
    refine thenE_le (h _ _ _) (fun b i x hx => ?_) _ hx
    split at hx
    · rename_i h1; rw [if_pos h1]; exact hx
    rename_i h1; rw [if_neg h1]
    split at hx
    · rename_i h2; rw [if_pos h2]; exact h _ _ _ _ hx
    · rename_i h2; rw [if_neg h2]; exact hx
theorem P_succ (L : List Tok) : ∀ f, Le (P L f) (P L (f + 1))
  | 0 => fun _ _ _ _ h => by cases h
  | f + 1 => step_le (P_succ L f)
theorem P_more (L : List Tok) {f g : Nat} (h : f ≤ g) : Le (P L f) (P L g) := by
  induction g with
  | zero => obtain rfl : f = 0 := by omega
            exact fun _ _ _ _ h => h
  | succ g ih =>
    by_cases e : f = g + 1
    · subst e; exact fun _ _ _ _ h => h
    · exact fun t I o r hr => P_succ L g t I o r (ih (by omega) t I o r hr)
theorem P_one (L : List Tok) : ∀ (f : Nat) (g : Tag) (I o : Nat) (l : List Fo) (i : Nat), (∀ l', g ≠ .args l') → P L f g I o = some (.ok (l, i)) → ∃ a, l = [a] := by
  intro f
  induction f with
  | zero => intro g I o l i _ h; cases h
  | succ f ihf =>
    intro g I o l i hga h
    cases g with
    | args l' => exact absurd rfl (hga l')
    | loop n a =>
      simp only [P, stepP] at h
      split at h
      · cases h; exact ⟨_, rfl⟩
      · rcases thenE_some h with ⟨e, _, h1⟩ | ⟨a, i, h1, h2⟩
        · cases h1
        · split at h2
          · cases h2; exact ⟨_, rfl⟩
          · exact ihf _ _ _ _ _ (fun l' => by simp) h2
    | bin n =>
      simp only [P, stepP] at h
      split at h
      · rcases thenE_some h with ⟨e, _, h1⟩ | ⟨a, i, h1, h2⟩
        · cases h1
        · exact ihf _ _ _ _ _ (fun l' => by simp) h2
      · unfold operandS at h
        split at h
        · cases h
        split at h
        · cases h
        split at h
        · cases h; exact ⟨_, rfl⟩
        split at h
        · split at h
          · split at h
            · cases h; exact ⟨_, rfl⟩
            · unfold callS at h
              split at h
              · cases h
              · cases h
              · cases h; exact ⟨_, rfl⟩
          · cases h; exact ⟨_, rfl⟩
        split at h
        · unfold signS at h
          split at h
          · split at h
            · split at h
              · split at h
                · rcases thenE_some h with ⟨e, _, h1⟩ | ⟨a, i, h1, h2⟩
                  · cases h1
                  · cases h2; exact ⟨_, rfl⟩
                · cases h
              · cases h
            · rcases thenE_some h with ⟨e, _, h1⟩ | ⟨a, i, h1, h2⟩
              · cases h1
              · cases h2; exact ⟨_, rfl⟩
          · split at h
            · cases h; exact ⟨_, rfl⟩
            split at h
            · cases h; exact ⟨_, rfl⟩
            split at h
            · rcases thenE_some h with ⟨e, _, h1⟩ | ⟨a, i, h1, h2⟩
              · cases h1
              · rcases needT_some h2 with h3 | ⟨_, h3⟩
                · cases h3
                · cases h3; exact ⟨_, rfl⟩
            split at h
            · rcases thenE_some h with ⟨e, _, h1⟩ | ⟨a, i, h1, h2⟩
              · cases h1
              rcases needT_some h2 with h3 | ⟨_, h3⟩
              · cases h3
              rcases thenE_some h3 with ⟨e, _, h1⟩ | ⟨a, i, h1, h2⟩
              · cases h1
              rcases needT_some h2 with h3 | ⟨_, h3⟩
              · cases h3
              rcases thenE_some h3 with ⟨e, _, h1⟩ | ⟨a, i, h1, h2⟩
              · cases h1
              cases h2; exact ⟨_, rfl⟩
            · cases h
        · cases h
def Ans (L : List Tok) (g : Tag) (I o : Nat) : Prop := ∃ f r, P L f g I o = some r
def rank : Tag → Nat
  | .bin n => 10 - n
  | .loop _ _ => 15
  | .args _ => 16
theorem good_size {F : Fo} (h : Good F) : 1 ≤ F.size := one_size h.one
theorem ans_all {L : List Tok} (hL : ∀ t ∈ L, TokOk t) : ∀ (m : Nat) (g : Tag) (I o : Nat), 20 * (L.length - I) + rank g ≤ m → I ≤ L.length → (∀ n, g = .bin n → n ≤ 8) → (∀ F ∈ g.have_, Good F) → Ans L g I o := by
  intro m
  induction m with
  | zero =>
    intro g I o hm hI hg _
    cases g with
    | bin n => have := hg n rfl; simp [rank] at hm; omega
    | loop n a => simp [rank] at hm
    | args l => simp [rank] at hm
  | succ m ih =>
    intro g I o hm hI hg hG
    -- an expression's answer, and what follows
    have sub : ∀ (n I' o' : Nat), 20 * (L.length - I') + (10 - n) ≤ m → I' ≤ L.length → n ≤ 8 → ∃ f r, P L f (.bin n) I' o' = some r ∧ ∀ l i, r = .ok (l, i) → ∃ a, l = [a] ∧ Good a ∧ I' < i ∧ i ≤ L.length := by
      intro n I' o' h1 h2 h3
      obtain ⟨f, r, hr⟩ := ih (.bin n) I' o' h1 h2 (fun k hk => by cases hk; exact h3) (fun F hF => by simp [Tag.have_] at hF)
      refine ⟨f, r, hr, fun l i he => ?_⟩
      subst he
      have h5 := P_ok hL f (.bin n) I' o' _ h2 (fun F hF => by simp [Tag.have_] at hF) hr
      obtain ⟨k1, k2, k3, k4⟩ := h5
      have hl : ∃ a, l = [a] := P_one L f _ _ _ _ _ (fun l' => by simp) hr
      obtain ⟨a, rfl⟩ := hl
      have ha := k1 a (by simp)
      have hs := good_size ha
      simp only [Tag.have_, cat, Fo.app_no, List.length_singleton, List.length_nil, Fo.size] at k4
      exact ⟨a, rfl, ha, by omega, k3⟩
    have then_ : ∀ (n I' o' : Nat) (k : Orc → Fo → Nat → Option Res), (∀ p q, Le p q → ∀ a i x, k p a i = some x → k q a i = some x) → 20 * (L.length - I') + (10 - n) ≤ m → I' ≤ L.length → n ≤ 8 →
        (∀ a i, Good a → I' < i → i ≤ L.length → ∃ f x, k (P L f) a i = some x) → ∃ f x, thenE (P L f (.bin n) I' o') (k (P L f)) = some x := by
      intro n I' o' k hk h1 h2 h3 hc
      obtain ⟨f, r, hr, hl⟩ := sub n I' o' h1 h2 h3
      cases r with
      | error e => exact ⟨f, .error e, by rw [hr]; rfl⟩
      | ok y =>
        obtain ⟨l, i⟩ := y
        obtain ⟨a, rfl, ha, hi1, hi2⟩ := hl l i rfl
        obtain ⟨f2, x, hx⟩ := hc a i ha hi1 hi2
        refine ⟨max f f2, x, ?_⟩
        rw [P_more L (Nat.le_max_left f f2) _ _ _ _ hr]
        exact hk _ _ (P_more L (Nat.le_max_right f f2)) _ _ _ hx
    have kc : ∀ (k : Fo → Nat → Option Res), ∀ p q : Orc, Le p q → ∀ a i x, (fun (_ : Orc) => k) p a i = some x → (fun (_ : Orc) => k) q a i = some x := fun k p q _ a i x h => h
    suffices h : ∃ f r, stepP L (P L f) g I o = some r by
      obtain ⟨f, r, hr⟩ := h
      exact ⟨f + 1, r, hr⟩
    cases g with
    | bin n =>
      have hn := hg n rfl
      simp only [rank] at hm
      simp only [stepP]
      by_cases hn8 : n < 8
      · simp only [if_pos hn8]
        refine then_ (n + 1) I o (fun p a i => p (.loop n a) i o) (fun p q h a i x hx => h _ _ _ _ hx) (by omega) hI (by omega) (fun a i ha h1 h2 => ?_)
        exact ih (.loop n a) i o (by simp [rank]; omega) h2 (fun k hk => by cases hk) (fun F hF => by simp [Tag.have_] at hF; rw [hF]; exact ha)
      · simp only [if_neg hn8]
        unfold operandS
        split
        · exact ⟨0, _, rfl⟩
        split
        · exact ⟨0, _, rfl⟩
        rename_i t ht
        have hlt := (List.getElem?_eq_some_iff.1 ht).1
        split
        · exact ⟨0, _, rfl⟩
        split
        · split
          · rename_i h1
            have h1 := isT_lt h1
            split
            · exact ⟨0, _, rfl⟩
            · obtain ⟨f, r, hr⟩ := ih (.args []) (I + 2) (o + 1) (by simp [rank]; omega) (by omega) (fun k hk => by cases hk) (fun F hF => by simp [Tag.have_] at hF)
              refine ⟨f, ?_⟩
              rw [hr]
              cases r with
              | error e => exact ⟨_, rfl⟩
              | ok y => exact ⟨_, rfl⟩
          · exact ⟨0, _, rfl⟩
        split
        · unfold signS
          split
          · split
            · split
              · rename_i u hu
                have hlt2 := (List.getElem?_eq_some_iff.1 hu).1
                split
                · exact then_ 8 (I + 2) (o + 1) (fun _ a i => one (node 25 (Lx.val u.t.data.toList) noS a) i) (kc _) (by omega) (by omega) (by omega) (fun a i _ _ _ => ⟨0, _, rfl⟩)
                · exact ⟨0, _, rfl⟩
              · exact ⟨0, _, rfl⟩
            · rename_i op _ _
              exact then_ 8 (I + 1) (o + 1) (fun _ a i => one (node op 0 noS a) i) (kc _) (by omega) (by omega) (by omega) (fun a i _ _ _ => ⟨0, _, rfl⟩)
          · split
            · exact ⟨0, _, rfl⟩
            split
            · exact ⟨0, _, rfl⟩
            split
            · refine then_ 0 (I + 1) (o + 1) (fun _ a i => needT L tRpar i fun i => one a i) (kc _) (by omega) (by omega) (by omega) (fun a i _ _ _ => ⟨0, ?_⟩)
              unfold needT; split
              · exact ⟨_, rfl⟩
              · exact ⟨_, rfl⟩
            split
            · refine then_ 0 (I + 1) (o + 1) (fun p a i => needT L tThen i fun i => thenE (p (.bin 0) i (o + 1)) fun b i => needT L tElse i fun i => thenE (p (.bin 0) i (o + 1)) fun c i => one (node 26 0 noS (a.app (b.app c))) i)
                (fun p q h a i x => needT_le (fun i x => thenE_le (h _ _ _) (fun b i x => needT_le (fun i x => thenE_le (h _ _ _) (fun _ _ _ h => h) x) x) x) x) (by omega) (by omega) (by omega) (fun a i ha h1 h2 => ?_)
              unfold needT
              split
              · rename_i h3
                have h3 := isT_lt h3
                refine then_ 0 (i + 1) (o + 1) (fun p b i => if isT L i tElse = true then thenE (p (.bin 0) (i + 1) (o + 1)) (fun c i => one (node 26 0 noS (a.app (b.app c))) i) else errAt L 5 i)
                  (fun p q h b i x hx => ?_) (by omega) (by omega) (by omega) (fun b j hb h4 h5 => ?_)
                · revert hx; intro hx
                  split at hx
                  · rename_i h6; rw [if_pos h6]; exact thenE_le (h _ _ _) (fun _ _ _ h => h) _ hx
                  · rename_i h6; rw [if_neg h6]; exact hx
                · split
                  · rename_i h6
                    have h6 := isT_lt h6
                    exact then_ 0 (j + 1) (o + 1) (fun _ c i => one (node 26 0 noS (a.app (b.app c))) i) (kc _) (by omega) (by omega) (by omega) (fun c i _ _ _ => ⟨0, _, rfl⟩)
                  · exact ⟨0, _, rfl⟩
              · exact ⟨0, _, rfl⟩
            · exact ⟨0, _, rfl⟩
        · exact ⟨0, _, rfl⟩
    | loop n a =>
      simp only [rank] at hm
      have ha := hG a (by simp [Tag.have_])
      simp only [stepP]
      split
      · exact ⟨0, _, rfl⟩
      · rename_i op sw hop
        obtain ⟨s, hs, hop⟩ := Option.bind_eq_some_iff.1 hop
        have hlt := hereT_lt hs
        have ho := opAt_is hop
        have hn : n < 8 := by
          unfold opAt at hop
          split at hop <;> first | omega | cases hop
        refine then_ (if n ≤ 1 then n else n + 1) (I + 1) o (fun p b i => if n ≤ 1 ∨ n = 5 then one (node op 0 noS (if sw then b.app a else a.app b)) i else p (.loop n (node op 0 noS (if sw then b.app a else a.app b))) i o)
          (fun p q h b i x hx => ?_) (by split <;> omega) (by omega) (by split <;> omega) (fun b i hb h1 h2 => ?_)
        · revert hx; intro hx
          split at hx
          · rename_i h1; rw [if_pos h1]; exact hx
          · rename_i h1; rw [if_neg h1]; exact h _ _ _ _ hx
        · split
          · exact ⟨0, _, rfl⟩
          · refine ih _ i o (by simp [rank]; omega) h2 (fun k hk => by cases hk) (fun F hF => ?_)
            simp only [Tag.have_, List.mem_singleton] at hF
            rw [hF]
            cases sw
            · exact good_two ho ha hb
            · exact good_two ho hb ha
    | args l =>
      simp only [rank] at hm
      simp only [Tag.have_] at hG
      simp only [stepP]
      refine then_ 0 I o (fun p a i => if isT L i tRpar then some (.ok (l ++ [a], i + 1)) else if isT L i tComma then p (.args (l ++ [a])) (i + 1) o else errAt L 5 i)
        (fun p q h b i x hx => ?_) (by omega) hI (by omega) (fun a i ha h1 h2 => ?_)
      · revert hx; intro hx
        split at hx
        · rename_i h1; rw [if_pos h1]; exact hx
        rename_i h1; rw [if_neg h1]
        split at hx
        · rename_i h2; rw [if_pos h2]; exact h _ _ _ _ hx
        · rename_i h2; rw [if_neg h2]; exact hx
      · split
        · exact ⟨0, _, rfl⟩
        split
        · rename_i h3
          have h3 := isT_lt h3
          refine ih _ (i + 1) o (by simp [rank]; omega) (by omega) (fun k hk => by cases hk) (fun F hF => ?_)
          simp only [Tag.have_] at hF
          rcases List.mem_append.1 hF with hF | hF
          · exact hG F hF
          · rw [List.mem_singleton.1 hF]; exact ha
        · exact ⟨0, _, rfl⟩
end Px
end Go.Proofs.YtahalimekacliaaGreatDoor
