/- The number of an atom's name, as the program reads it: the walk. How an expression over atoms is reckoned: the plain mathematics of the rounds. How an expression over atoms is reckoned of truth: the walk of the functions that run is given. Data that came in, opened: nodes, expressions, lists of these, truths; and what each of its strings weighs. From what the rows list to what is known of the program's variables; the frame of a tied row, its strings weighed. -/
import Derived.Test.YtjnpkdpljmkpiaaGreatDoorRows
import Derived.ProofKit
import Derived.OpenShut
import Derived.SizedLaws
import Derived.Lib.SmallJoins
import Derived.Deep.Slices
import Derived.Deep.Matrix
import Derived.ChangeSlices
import Derived.Test.YtjnpkdpljmkpiaaGreatDoorTie
import Derived.Lib.LaidU8
import Derived.Lib.LaidTab
import Derived.LaidLaws
import Derived.HandedShaped
import Derived.Lay
import Derived.SevenTiedAt
import Derived.Test.YtjnpkdpljmkpiaaGreatDoorJ15
import Derived.Test.YtjnpkdpljmkpiaaGreatDoorJ25
import Derived.Test.YtjnpkdpljmkpiaaGreatDoorJ27
namespace Go.Proofs.YtjnpkdpljmkpiaaGreatDoor
open Go.RowKit Go.Shelf Tx
theorem below_bytes (B : Nat) (w : World) (e : TypeId) (s : ByteArray) (h : B ≤ w.heap.size) : Below B w (Lib.bytesWorld w e s) :=
  ⟨rfl, rfl, rfl, by rw [Lib.bytesWorld_size]; omega, fun k hk => Lib.bytesWorld_at_old w e s k (by omega)⟩
theorem numP_is (s : ByteArray) : Ux.numP s = if Lib.hasPrefix s.data.toList [63] then match Lib.atoiAll (Lib.trimPrefix s.data.toList [63]) with
    | .ok v => if Lib.itoa v = Lib.trimPrefix s.data.toList [63] then some v else none
    | _ => none else none := by
  unfold Ux.numP
  generalize s.data.toList = l
  cases l with
  | nil => rfl
  | cons c r =>
    by_cases h : c = 63
    · subst h
      have : Lib.trimPrefix (63 :: r) [63] = r := rfl
      have h2 : Lib.hasPrefix (63 :: r) [63] = true := rfl
      rw [this, h2]
      rfl
    · have h1 : Lib.hasPrefix (c :: r) [63] = false := by
        show ([63].isPrefixOf (c :: r)) = false
        simp [List.isPrefixOf]; exact fun q => h q.symm
      rw [h1]
      simp only [Bool.false_eq_true, if_false]
      split
      · rename_i d hd; cases hd; exact absurd rfl h
      · rfl
set_option maxRecDepth 100000 in
set_option maxHeartbeats 2000000 in
theorem number_any (s : ByteArray) (w : World) (hs : s.size ≤ 281474976710656) (G : Gl w) : Calls Tryz.prog 58 #[.string s] w fun e w' => ∃ v, e = .returned (.tuple #[.int .i64 v, .bool (Ux.numP s).isSome]) ∧ (∀ m, Ux.numP s = some m → m = v) ∧ Below w.heap.size w w' := by
  obtain ⟨D, hD⟩ : ∃ D : ByteArray, D = ⟨(Lib.trimPrefix s.data.toList [63]).toArray⟩ := ⟨_, rfl⟩
  have hDl : D.data.toList = Lib.trimPrefix s.data.toList [63] := by rw [hD]
  have hds : D.size ≤ 281474976710656 := by
    rw [← list_size, hDl]; unfold Lib.trimPrefix
    have := list_size s
    split
    · rw [List.length_drop]; omega
    · omega
  have hcut : ∀ W, Calls Tryz.prog 97 #[.string s, .string ⟨#[63]⟩] W fun e w' => e = .returned (.tuple #[.string D, .bool (Lib.hasPrefix s.data.toList [63])]) ∧ W = w' := fun W => by
    have := Tryz.strings_CutPrefix s ⟨#[63]⟩ W
    rw [hD]; exact this.mono fun _ _ h => ⟨h.1, h.2.symm⟩
  have hnp := numP_is s
  rw [← hDl] at hnp
  obtain ⟨q1, q2, hsv⟩ := G.syn
  obtain ⟨q3, q4, hrv⟩ := G.ran
  clear hD hDl
  generalize Lib.hasPrefix s.data.toList [63] = h at hcut hnp
  generalize Ux.numP s = N at hnp ⊢
  have HN := Lib.hid hnp
  clear hnp
  cases ha : Lib.atoiAll D.data.toList with
  | ok v =>
    have hbd := Lib.atoiAll_bounds ha
    have hA := Tryz.strconv_Atoi_ok D (by omega) v ha w
    have HV := Lib.hid ha
    clear hsv hrv ha
    cases h
    · have HF : Hid (N = none) := HN.out
      go_enter Tryz.func58, Tryz.ntmps58
      go_wp2_with fail
      refine (hcut w).mono ?_
      rintro e w1 ⟨rfl, rfl⟩
      go_wp2_with fail
      refine hA.mono ?_
      rintro e w1 ⟨rfl, hw1⟩
      have hb1 : Below w.heap.size w w1 := by
        rcases hw1 with rfl | ⟨t, rfl⟩
        · exact Below.refl _ _
        · exact below_bytes _ _ _ _ (Nat.le_refl _)
      clear hw1 hA
      go_wp2_with fail
      go_ret2
      exact ⟨_, by rw [HF.out]; rfl, fun m hm => (by rw [HF.out] at hm; cases hm), hb1⟩
    · obtain ⟨T, hT⟩ : ∃ T : ByteArray, T = ⟨(Lib.itoa v).toArray⟩ := ⟨_, rfl⟩
      obtain ⟨d, hd⟩ : ∃ d, d = (T.toList == D.toList) := ⟨_, rfl⟩
      have hI : ∀ w', Gl w' → Calls Tryz.prog 92 #[.int .i64 v] w' fun e w'' => e = .returned (.string T) ∧ Below w'.heap.size w' w'' := fun w' G' => by
        rw [hT]; exact itoa_int v (by omega) (by omega) w' G'
      have HF : Hid (N = if d = true then some v else none) := by
        show _ = _
        rw [HN.out, HV.out]
        simp only [if_true]
        by_cases hq : Lib.itoa v = D.data.toList
        · rw [if_pos hq, if_pos]
          rw [hd, Lib.toList_data, Lib.toList_data, hT, ← hq]; simp
        · rw [if_neg hq, if_neg]
          rw [hd, Lib.toList_data, Lib.toList_data, hT]
          simpa using hq
      have hdd := hd.symm
      clear hT hd
      go_enter Tryz.func58, Tryz.ntmps58
      go_wp2_with fail
      refine (hcut w).mono ?_
      rintro e w1 ⟨rfl, rfl⟩
      go_wp2_with fail
      refine hA.mono ?_
      rintro e w1 ⟨rfl, hw1⟩
      have hb1 : Below w.heap.size w w1 := by
        rcases hw1 with rfl | ⟨t, rfl⟩
        · exact Below.refl _ _
        · exact below_bytes _ _ _ _ (Nat.le_refl _)
      clear hw1 hA
      have G1 := G.below hb1
      go_wp2_with fail
      refine (hI _ G1).mono ?_
      rintro e w2 ⟨rfl, hb2⟩
      have B2 := below_next hb1 hb2
      cases d
      · go_wp2_with fail
        go_ret2
        exact ⟨_, by rw [HF.out]; rfl, fun m hm => (by rw [HF.out] at hm; cases hm), B2⟩
      · go_wp2_with fail
        go_ret2
        exact ⟨_, by rw [HF.out]; rfl, fun m hm => (by rw [HF.out] at hm; cases hm; rfl), B2⟩
  | range =>
    have hA := Tryz.strconv_Atoi_range_var D (by omega) ha q3 q4 w hrv
    have HF : Hid (N = none) := by show _ = _; rw [HN.out, ha]; simp
    clear hsv hrv
    generalize Lib.atoiSat D.data.toList = v at hA
    cases h
    all_goals
      go_enter Tryz.func58, Tryz.ntmps58
      go_wp2_with fail
      refine (hcut w).mono ?_
      rintro e w1 ⟨rfl, rfl⟩
      go_wp2_with fail
      refine hA.mono ?_
      rintro e w1 ⟨N1, rfl, hN, hB1, hb1⟩
      clear hA
      go_wp2_with fail
      go_ret2
      exact ⟨_, by rw [HF.out]; rfl, fun m hm => (by rw [HF.out] at hm; cases hm), hb1⟩
  | _ =>
    have hA := Tryz.strconv_Atoi_syntax_var D (by omega) (fun v q => by rw [ha] at q; cases q) (fun q => by rw [ha] at q; cases q) q1 q2 w hsv
    have HF : Hid (N = none) := by show _ = _; rw [HN.out, ha]; simp
    clear hsv hrv
    cases h
    all_goals
      go_enter Tryz.func58, Tryz.ntmps58
      go_wp2_with fail
      refine (hcut w).mono ?_
      rintro e w1 ⟨rfl, rfl⟩
      go_wp2_with fail
      refine hA.mono ?_
      rintro e w1 ⟨N1, rfl, hN, hB1, hb1⟩
      clear hA
      go_wp2_with fail
      go_ret2
      exact ⟨_, by rw [HF.out]; rfl, fun m hm => (by rw [HF.out] at hm; cases hm), hb1⟩
end Go.Proofs.YtjnpkdpljmkpiaaGreatDoor
namespace Go.Proofs.YtjnpkdpljmkpiaaGreatDoor
open Go.RowKit Go.Shelf Tx
namespace Ux
theorem set_here {α : Type} {A B : List α} {z y : α} {i : Nat} (h : A.length = i) : (A ++ z :: B).set i y = (A ++ [y]) ++ B := by
  subst h; rw [List.set_append_right _ _ (Nat.le_refl _)]; simp
def mid {α : Type} (g : List α → Nd → α) (f : Nd → α) (e : List Nd) (i : Nat) : List α := (e.take i).foldl (fun vs x => vs ++ [g vs x]) [] ++ (e.drop i).map f
section
variable {α : Type} {g : List α → Nd → α} {f : Nd → α} {e : List Nd} {i : Nat} {x : Nd}
def pre (g : List α → Nd → α) (e : List Nd) : List α := e.foldl (fun vs x => vs ++ [g vs x]) []
theorem pre_snoc (e : List Nd) (x : Nd) : pre g (e ++ [x]) = pre g e ++ [g (pre g e) x] := by simp [pre, List.foldl_append]
theorem pre_len (e : List Nd) : (pre g e).length = e.length := by
  induction e using snoc_ind with
  | h0 => rfl
  | h1 e x ih => rw [pre_snoc]; simp [ih]
theorem mid_is : mid g f e i = pre g (e.take i) ++ (e.drop i).map f := rfl
theorem mid_zero : mid g f e 0 = e.map f := by simp [mid_is, pre]
theorem mid_next (h : e[i]? = some x) : mid g f e (i + 1) = (mid g f e i).set i (g (pre g (e.take i)) x) := by
  have hi := (List.getElem?_eq_some_iff.1 h).1
  have hx := (List.getElem?_eq_some_iff.1 h).2
  rw [mid_is, mid_is, take_at h, pre_snoc, List.drop_eq_getElem_cons hi, List.map_cons, set_here (by rw [pre_len, List.length_take]; omega)]
theorem mid_self (h : e[i]? = some x) : (mid g f e i)[i]? = some (f x) := by
  have hi := (List.getElem?_eq_some_iff.1 h).1
  have hx := (List.getElem?_eq_some_iff.1 h).2
  rw [mid_is, List.drop_eq_getElem_cons hi, List.map_cons, List.getElem?_append_right (by rw [pre_len, List.length_take]; omega), pre_len, List.length_take, Nat.min_eq_left (by omega), Nat.sub_self, hx]; rfl
theorem mid_same (h : e[i]? = some x) (hf : g (pre g (e.take i)) x = f x) : mid g f e (i + 1) = mid g f e i := by
  rw [mid_next h, hf]
  apply List.ext_getElem?
  intro j
  rw [List.getElem?_set]
  split
  · rename_i hj; subst hj; rw [mid_self h]; have := (List.getElem?_eq_some_iff.1 (mid_self (g := g) (f := f) h)).1; simp [this]
  · rfl
theorem mid_at {j : Nat} (hj : j < i) (hi : i ≤ e.length) (d : α) : (mid g f e i)[j]? = some ((pre g (e.take i)).getD j d) := by
  have hl : j < (pre g (e.take i)).length := by rw [pre_len, List.length_take]; omega
  rw [mid_is, List.getElem?_append_left hl, List.getD_eq_getElem?_getD, List.getElem?_eq_getElem hl]; rfl
theorem mid_full : mid g f e e.length = pre g e := by simp [mid_is]
theorem pre_one (h : e[i]? = some x) : pre g (e.take (i + 1)) = pre g (e.take i) ++ [g (pre g (e.take i)) x] := by rw [take_at h, pre_snoc]
def upTo (f : Nd → α) (z : α) (e : List Nd) (i : Nat) : List α := (e.take i).map f ++ List.replicate (e.length - i) z
theorem upTo_zero {z : α} : upTo f z e 0 = List.replicate e.length z := by simp [upTo]
theorem upTo_full {z : α} : upTo f z e e.length = e.map f := by simp [upTo]
theorem upTo_next {z : α} (h : e[i]? = some x) : upTo f z e (i + 1) = (upTo f z e i).set i (f x) := by
  have hi := (List.getElem?_eq_some_iff.1 h).1
  obtain ⟨k, hk⟩ : ∃ k, e.length - i = k + 1 := ⟨e.length - i - 1, by omega⟩
  have hk2 : e.length - (i + 1) = k := by omega
  unfold upTo
  rw [take_at h, hk, hk2, List.replicate_succ, set_here (by simp; omega)]; simp
theorem upTo_self {z : α} (h : e[i]? = some x) : (upTo f z e i)[i]? = some z := by
  have hi := (List.getElem?_eq_some_iff.1 h).1
  obtain ⟨k, hk⟩ : ∃ k, e.length - i = k + 1 := ⟨e.length - i - 1, by omega⟩
  unfold upTo
  have hl : ((e.take i).map f).length = i := by rw [List.length_map, List.length_take]; omega
  rw [hk, List.replicate_succ, List.getElem?_append_right (by omega), hl, Nat.sub_self]; rfl
theorem upTo_same {z : α} (h : e[i]? = some x) (hf : f x = z) : upTo f z e (i + 1) = upTo f z e i := by
  rw [upTo_next h, hf]
  apply List.ext_getElem?
  intro j
  rw [List.getElem?_set]
  split
  · rename_i hj; subst hj; rw [upTo_self h]; have := (List.getElem?_eq_some_iff.1 (upTo_self (f := f) (z := z) h)).1; simp [this]
  · rfl
end
theorem vals_pre (l : List Bool) (e : List Nd) : vals l e = pre (valN l) e := rfl
def badP (x : Nd) : Bool := !isLogic x.op && (x.op != 3 || (numP x.s).isNone)
def av (l : List Bool) (x : Nd) : Bool := if x.op = 3 then l.getD ((numOf x.s l.length).getD 0) false else false
theorem valN_atom {l vs : List Bool} {x : Nd} (h : x.op = 3) : valN l vs x = av l x := by unfold valN av; rw [if_pos h, if_pos h]
theorem numP_numOf {s : ByteArray} {most k : Nat} (hm : most ≤ 1000000000) (h : numOf s most = some k) : numP s = some (k : Int) ∧ k < most := (num_both hm k).1 h
theorem bad_none {l : List Bool} (hl : l.length ≤ 1000000000) {e : List Nd} {i : Nat} {x : Nd} (hx : e[i]? = some x) (hb : badP x = true) : valA e l = (false, 1) := by
  unfold valA
  rw [if_neg]
  intro h
  unfold mayA at h
  rw [Bool.and_eq_true] at h
  have h1 := List.all_eq_true.1 h.2 x (List.mem_of_getElem? hx)
  unfold nodeA at h1
  unfold badP at hb
  simp only [Bool.and_eq_true, Bool.not_eq_true', Bool.or_eq_true, bne_iff_ne, Option.isNone_iff_eq_none] at hb
  rw [hb.1] at h1
  simp only [Bool.false_or, Bool.and_eq_true, beq_iff_eq, Option.isSome_iff_exists] at h1
  obtain ⟨h2, k, h3⟩ := h1
  rcases hb.2 with h4 | h4
  · exact h4 h2
  · have := (numP_numOf hl h3).1; rw [h4] at this; cases this
theorem out_none {l : List Bool} (hl : l.length ≤ 1000000000) {e : List Nd} {i : Nat} {x : Nd} {v : Int} (hx : e[i]? = some x) (h3 : x.op = 3) (hv : numP x.s = some v) (hr : v < 0 ∨ (l.length : Int) ≤ v) : valA e l = (false, 1) := by
  unfold valA
  rw [if_neg]
  intro h
  unfold mayA at h
  rw [Bool.and_eq_true] at h
  have h1 := List.all_eq_true.1 h.2 x (List.mem_of_getElem? hx)
  unfold nodeA at h1
  rw [show isLogic x.op = false by rw [h3]; rfl] at h1
  simp only [Bool.false_or, Bool.and_eq_true, beq_iff_eq, Option.isSome_iff_exists] at h1
  obtain ⟨h2, k, h4⟩ := h1
  obtain ⟨h5, h6⟩ := numP_numOf hl h4
  rw [hv] at h5; cases h5; omega
theorem may_none {l : List Bool} {e : List Nd} (h : mayB e = false) : valA e l = (false, 1) := by
  unfold valA mayA; rw [h]; rfl
theorem av_at {l : List Bool} (hl : l.length ≤ 1000000000) {x : Nd} {k : Nat} (h3 : x.op = 3) (hv : numP x.s = some (k : Int)) (hk : k < l.length) : av l x = l.getD k false ∧ numOf x.s l.length = some k := by
  have := (num_both hl k).2 ⟨hv, hk⟩
  unfold av; rw [if_pos h3, this]; exact ⟨rfl, rfl⟩
def goodA (l : List Bool) (e : List Nd) (i : Nat) : Prop := ∀ (j : Nat) (x : Nd), j < i → e[j]? = some x → x.op = 3 → (numOf x.s l.length).isSome = true
theorem done_val {l : List Bool} {e : List Nd} (hm : mayB e = true) (hb : ∀ (j : Nat) (x : Nd), e[j]? = some x → badP x = false) (ha : goodA l e e.length) : valA e l = (valL l e, 0) := by
  unfold valA
  rw [if_pos]
  unfold mayA
  rw [hm, Bool.true_and, List.all_eq_true]
  intro x hx
  obtain ⟨j, hj⟩ := List.mem_iff_getElem?.1 hx
  have h1 := hb j x hj
  unfold badP at h1
  unfold nodeA
  by_cases h3 : x.op = 3
  · rw [ha j x (List.getElem?_eq_some_iff.1 hj).1 hj h3, h3]; rfl
  · have : (x.op != 3) = true := by simpa using h3
    rw [this] at h1
    simp at h1; rw [h1]; rfl
theorem valL_at {l : List Bool} {e : List Nd} {n : Nat} (hn : n = e.length) (h1 : 1 ≤ n) : (pre (valN l) e)[n - 1]? = some (valL l e) := by
  unfold valL
  rw [vals_pre, List.getLastD_eq_getLast?, List.getLast?_eq_getElem?, pre_len, ← hn]
  have : n - 1 < (pre (valN l) e).length := by rw [pre_len]; omega
  rw [List.getElem?_eq_getElem this]; rfl
theorem kids_ahead {e : List Nd} {i : Nat} {x : Nd} (hm : mayB e = true) (hx : e[i]? = some x) : ∀ k ∈ kids x, ∃ j : Nat, k = (j : Int) ∧ j < i := by
  intro k hk
  have := ((mayB_iff e).1 hm).inR i x hx k hk
  exact ⟨k.toNat, by omega, by omega⟩
end Ux
end Go.Proofs.YtjnpkdpljmkpiaaGreatDoor
namespace Go.Proofs.YtjnpkdpljmkpiaaGreatDoor
open Go.RowKit Go.Shelf Tx
theorem SlBools.form {w : World} {v : Value} {l : List Bool} (h : SlBools w v l) : ∃ a c, v = .slice a l.length c ∧ ∀ i, i < l.length → ∃ b o, a = some ⟨b, o, none⟩ ∧ w.cell? ⟨b, o + i, none⟩ = some (.bool (l.getD i false)) := by
  rcases h with ⟨rfl, rfl⟩ | ⟨b, o, c, rfl, _, hc⟩
  · exact ⟨none, 0, rfl, fun i h => by simp at h⟩
  · exact ⟨_, c, rfl, fun i h => ⟨b, o, rfl, hc i h⟩⟩
def AtomPost (l : List Bool) (k : Int) (w : World) (r : Ending) (w' : World) : Prop :=
  w' = w ∧ ((0 ≤ k ∧ k < (l.length : Int) ∧ r = .returned (.tuple #[.bool (l.getD k.toNat false), .int .i64 0])) ∨ ((k < 0 ∨ (l.length : Int) ≤ k) ∧ r = .returned (.tuple #[.bool false, .int .i64 1])))
set_option maxRecDepth 100000 in
set_option maxHeartbeats 1000000 in
theorem atom1_any (l : List Bool) (v : Value) (ab : Nat) (k : Int) (w : World) (hc : w.cell? ⟨ab, 0, none⟩ = some v) (hl : SlBools w v l) :
    Calls Tryz.prog 49 #[.int .i64 k, .pointer (some ⟨ab, 0, none⟩)] w (AtomPost l k w) := by
  obtain ⟨a, c, rfl, hx⟩ := hl.form
  clear hl
  by_cases h0 : k < 0
  · clear hx
    go_enter Tryz.func49, Tryz.ntmps49
    go_wp2_with fail
    go_ret2
    exact ⟨rfl, Or.inr ⟨Or.inl h0, rfl⟩⟩
  · by_cases h1 : (l.length : Int) ≤ k
    · clear hx
      go_enter Tryz.func49, Tryz.ntmps49
      go_wp2_with fail
      go_ret2
      exact ⟨rfl, Or.inr ⟨Or.inr h1, rfl⟩⟩
    · obtain ⟨j, rfl⟩ : ∃ j : Nat, k = (j : Int) := ⟨k.toNat, by omega⟩
      obtain ⟨b, o, rfl, hcell⟩ := hx j (by omega)
      obtain ⟨y, hy⟩ : ∃ y, y = l.getD j false := ⟨_, rfl⟩
      rw [← hy] at hcell
      have HY := Lib.hid hy
      have h2 : (j : Int) < (l.length : Int) := by omega
      have h3 : (0 : Int) ≤ (j : Int) := by omega
      clear hx hy
      go_enter Tryz.func49, Tryz.ntmps49
      go_wp2_with fail
      go_ret2
      exact ⟨rfl, Or.inl ⟨h3, h2, by rw [HY.out]; rfl⟩⟩
set_option maxRecDepth 100000 in
theorem same2_any (b : Bool) (w : World) : Calls Tryz.prog 50 #[.bool b] w fun r w' => r = .returned (.bool b) ∧ w' = w := by
  go_enter Tryz.func50, Tryz.ntmps50
  go_wp2_with fail
  go_ret
  exact ⟨rfl, rfl⟩
set_option maxRecDepth 100000 in
theorem ite3_any (f g h : Bool) (w : World) : Calls Tryz.prog 51 #[.bool f, .bool g, .bool h] w fun r w' => r = .returned (.tuple #[.bool (if f then g else h), .int .i64 0]) ∧ w' = w := by
  cases f
  all_goals
    go_enter Tryz.func51, Tryz.ntmps51
    go_wp2_with fail
    go_ret2
    exact ⟨rfl, rfl⟩
end Go.Proofs.YtjnpkdpljmkpiaaGreatDoor
namespace Go.Proofs.YtjnpkdpljmkpiaaGreatDoor
open Go.ChangeShapes Go.WideShapes Go.ChangeAt Go.RowKit Go.Deep Go.Joins Tx
theorem cellsNode : Tryz.prog.cellsOf 42 = 6 := by kernel_rfl
theorem cellsInt : Tryz.prog.cellsOf 3 = 1 := by kernel_rfl
theorem cellsBool : Tryz.prog.cellsOf 4 = 1 := by kernel_rfl
theorem cellsStr : Tryz.prog.cellsOf 9 = 1 := by kernel_rfl
theorem cellsExpr : Tryz.prog.cellsOf 30 = 1 := by kernel_rfl
theorem wf_i64 {n : Int} (h : (Lit.int .i64 n).wf = true) : -9223372036854775808 ≤ n ∧ n ≤ 9223372036854775807 := by
  simp [Lit.wf, IntKind.min, IntKind.max, IntKind.signed, IntKind.bits] at h
  omega
theorem spot_of_cell {w : World} {a : Addr} {v : Value} (h : w.cell? a = some v) : a.spot = none ∧ a.block < w.heap.size := by
  unfold World.cell? at h
  split at h
  · rename_i hb
    refine ⟨?_, (Array.getElem?_eq_some_iff.1 hb).1⟩
    cases hs : a.spot
    · rfl
    · rw [hs] at h; simp at h
  · simp at h
theorem add_of_spot {a : Addr} (h : a.spot = none) (n : Nat) : a.add n = ⟨a.block, a.off + n, none⟩ := by
  unfold Addr.add
  split
  · subst_vars; cases a; simp_all
  · rfl
section
variable {H : Type} {enc : TypeId × Value → H} {W : World} {base : Nat} {spare : Nat → Bool} {held : Bool} {fuel : Nat}
def NdFit (y : Nd) : Prop := (-9223372036854775808 ≤ y.op ∧ y.op ≤ 9223372036854775807) ∧ (-9223372036854775808 ≤ y.a ∧ y.a ≤ 9223372036854775807) ∧ (-9223372036854775808 ≤ y.b ∧ y.b ≤ 9223372036854775807) ∧ (-9223372036854775808 ≤ y.c ∧ y.c ≤ 9223372036854775807) ∧ (-9223372036854775808 ≤ y.n ∧ y.n ≤ 9223372036854775807)
set_option maxRecDepth 100000 in
theorem nd_in {cs : List Value} {x : DataW H × List MemPlace} (h : DataW.trod enc Tryz.prog W base spare held fuel 42 cs = some x) :
    ∃ y : Nd, cs = ndL y ∧ y.s.size ∈ x.1.weights Tryz.prog 42 ∧ y.s.size ≤ maxLen ∧ NdFit y := by
  obtain ⟨xs, n, _, rfl, hl, hxs, hx⟩ := DataW.trod_struct Tryz.underlying42 h
  rw [cellsNode] at hl
  have hxs6 : xs.length = 6 := hxs
  match cs, hl with
  | [c0, c1, c2, c3, c4, c5], _ =>
    match xs, hxs6 with
    | [x0, x1, x2, x3, x4, x5], _ =>
      have i0 : DataW.trod enc Tryz.prog W base spare held n 3 (List.take (Tryz.prog.cellsOf 3) [c0, c1, c2, c3, c4, c5]) = some x0 := hx 0 _ rfl
      have i1 : DataW.trod enc Tryz.prog W base spare held n 3 (List.take (Tryz.prog.cellsOf 3) [c1, c2, c3, c4, c5]) = some x1 := hx 1 _ rfl
      have i2 : DataW.trod enc Tryz.prog W base spare held n 3 (List.take (Tryz.prog.cellsOf 3) [c2, c3, c4, c5]) = some x2 := hx 2 _ rfl
      have i3 : DataW.trod enc Tryz.prog W base spare held n 3 (List.take (Tryz.prog.cellsOf 3) [c3, c4, c5]) = some x3 := hx 3 _ rfl
      have i4 : DataW.trod enc Tryz.prog W base spare held n 3 (List.take (Tryz.prog.cellsOf 3) [c4, c5]) = some x4 := hx 4 _ rfl
      have i5 : DataW.trod enc Tryz.prog W base spare held n 9 (List.take (Tryz.prog.cellsOf 9) [c5]) = some x5 := hx 5 _ rfl
      rw [cellsInt] at i0 i1 i2 i3 i4
      rw [cellsStr] at i5
      obtain ⟨n0, q0, _, w0⟩ := DataW.trod_int Tryz.underlying3 i0
      obtain ⟨n1, q1, _, w1⟩ := DataW.trod_int Tryz.underlying3 i1
      obtain ⟨n2, q2, _, w2⟩ := DataW.trod_int Tryz.underlying3 i2
      obtain ⟨n3, q3, _, w3⟩ := DataW.trod_int Tryz.underlying3 i3
      obtain ⟨n4, q4, _, w4⟩ := DataW.trod_int Tryz.underlying3 i4
      obtain ⟨s, q5, hs, w5⟩ := DataW.trod_string Tryz.underlying9 i5
      simp at q0 q1 q2 q3 q4 q5
      subst q0 q1 q2 q3 q4 q5
      refine ⟨⟨n0, n1, n2, n3, n4, s⟩, rfl, ?_, w5, wf_i64 w0, wf_i64 w1, wf_i64 w2, wf_i64 w3, wf_i64 w4⟩
      have hm : s.size ∈ x5.1.weights Tryz.prog 9 := by rw [hs]; simp [DataW.weights]
      simp only [DataW.weights, Tryz.underlying42, List.map_cons, List.map_nil, DataW.weightsEach, List.mem_append]
      refine Or.inr (Or.inr (Or.inr (Or.inr (Or.inr (Or.inl ?_)))))
      exact hm
theorem weights_all {P : Program} {e : TypeId} {l : List (DataW H)} {d : DataW H} (h : d ∈ l) {n : Nat} (hn : n ∈ d.weights P e) : n ∈ DataW.weightsAll P e l := by
  induction l with
  | nil => cases h
  | cons a r ih =>
    simp only [DataW.weightsAll, List.mem_append]
    rcases List.mem_cons.1 h with rfl | h
    · exact Or.inl hn
    · exact Or.inr (ih h)
theorem weights_slice {t e : TypeId} (ht : Tryz.prog.underlying t = some (.slice e)) {l sp : List (DataW H)} {d : DataW H} (h : d ∈ l) {m : Nat} (hm : m ∈ d.weights Tryz.prog e) : m ∈ (DataW.slice l sp).weights Tryz.prog t := by
  simp only [DataW.weights, ht, List.mem_cons, List.mem_append]
  exact Or.inr (Or.inl (weights_all h hm))
theorem slice_in {β : Type} {t e k : Nat} (ht : Tryz.prog.underlying t = some (.slice e)) (hc : Tryz.prog.cellsOf e = k) (h1 : 1 ≤ k) (R : List Value → β → Prop) (S : β → List Nat) {v : Value} {x : DataW H × List MemPlace}
    (h : DataW.trod enc Tryz.prog W base (fun _ => true) held fuel t [v] = some x)
    (hR : ∀ (n : Nat) (cs : List Value) (y : DataW H × List MemPlace), DataW.trod enc Tryz.prog W base (fun _ => true) held n e cs = some y → ∃ b : β, R cs b ∧ cs.length = k ∧ ∀ m ∈ S b, m ∈ y.1.weights Tryz.prog e) :
    ∃ L : List β, Sg k (fun _ c b => R c b) W v L ∧ L.length ≤ maxLen ∧ ∀ b ∈ L, ∀ m ∈ S b, m ∈ x.1.weights Tryz.prog t := by
  rcases open_slice ht h with ⟨hcs, _⟩ | ⟨a, len, cap, m, n, D, Pl, hcs, _, hle, hcm, hm, hxx, hx⟩
  · simp at hcs; subst hcs
    exact ⟨[], Sg.nil_, by simp, fun b hb => by cases hb⟩
  · simp at hcs; subst hcs
    have hmc : m = cap := by rw [hm]; rfl
    have hx' : ∀ i : Fin len, ∃ p : List Value × β, R p.1 p.2 ∧ p.1.length = k ∧ W.cells? base (a.add (i.1 * k)) k = some p.1 ∧ ∀ q ∈ S p.2, q ∈ x.1.weights Tryz.prog t := fun i => by
      obtain ⟨cs', h2, h3⟩ := hx i.1 (by have := i.2; omega)
      obtain ⟨b, h4, h5, h6⟩ := hR _ _ _ h3
      rw [hc] at h2
      refine ⟨(cs', b), h4, h5, h2, fun q hq => ?_⟩
      rw [hxx]
      exact weights_slice ht (List.mem_map.2 ⟨i.1, List.mem_range.2 i.2, rfl⟩) (h6 q hq)
    obtain ⟨f, hf⟩ := Classical.axiomOfChoice hx'
    refine ⟨List.ofFn fun i => (f i).2, ⟨List.ofFn fun i => (f i).1, ?_, by simp, fun i c y hc hy => ?_⟩, by rw [List.length_ofFn]; omega, fun b hb q hq => ?_⟩
    · by_cases h0 : len = 0
      · subst h0; exact Or.inl ⟨by simp, _, _, rfl⟩
      · have hz := (World.cells?_some (hf ⟨0, by omega⟩).2.2.1).2.2 0 (by omega)
        have hzl := (hf ⟨0, by omega⟩).2.1
        rw [List.getElem?_eq_getElem (by omega)] at hz
        have hs := spot_of_cell hz
        have hs0 : a.spot = none := by simpa [Addr.add] using hs.1
        have hs1 : a.block < W.heap.size := by simpa [Addr.add] using hs.2
        have ha : a = ⟨a.block, a.off, none⟩ := by cases a; simp_all
        refine Or.inr ⟨a.block, a.off, cap, by rw [List.length_ofFn, ← ha], by rw [List.length_ofFn]; omega, hs1, fun i c hi j u hu => ?_⟩
        rw [List.getElem?_ofFn] at hi
        split at hi
        · rename_i hil
          simp only [Option.some.injEq] at hi
          subst hi
          obtain ⟨-, g2, g3, -⟩ := hf ⟨i, hil⟩
          have hj : j < k := by have := (List.getElem?_eq_some_iff.1 hu).1; simp only [id] at this; omega
          obtain ⟨r1, r2, r3⟩ := World.cells?_some g3
          have r4 := r3 j hj
          rw [add_of_spot hs0, add_of_spot rfl] at r4
          simp only [id] at hu
          exact r4.trans hu
        · cases hi
    · rw [List.getElem?_ofFn] at hc hy
      split at hc
      · rename_i hil
        rw [dif_pos hil] at hy
        simp only [Option.some.injEq] at hc hy
        subst hc hy
        exact (hf ⟨i, hil⟩).1
      · cases hc
    · obtain ⟨i, rfl⟩ := List.mem_ofFn.1 hb
      exact (hf i).2.2.2 q hq
theorem sl_of_sg {α : Type} {k : Nat} {c : α → List Value} {v : Value} {L : List α} (h : Sg k (fun _ cs y => cs = c y) W v L) : Sl c k W v L := by
  obtain ⟨cs, h1, h2, h3⟩ := h
  have he : cs = L.map c := by
    apply List.ext_getElem?
    intro i
    rcases Nat.lt_or_ge i L.length with hi | hi
    · obtain ⟨y, hy⟩ : ∃ y, L[i]? = some y := ⟨_, List.getElem?_eq_getElem hi⟩
      obtain ⟨z, hz⟩ : ∃ z, cs[i]? = some z := ⟨_, List.getElem?_eq_getElem (by omega)⟩
      rw [List.getElem?_map, hy, hz, h3 i z y hz hy]; rfl
    · rw [List.getElem?_eq_none (by omega), List.getElem?_eq_none (by simpa using hi)]
  subst he
  rcases h1 with ⟨g1, a, q, rfl⟩ | ⟨b, o, q, rfl, g2, g3, g4⟩
  · exact Or.inl ⟨by simpa using g1, a, q, rfl⟩
  · refine Or.inr ⟨b, o, q, by simp, by simpa using g2, g3, fun i x hi j u hu => g4 i (c x) (by rw [List.getElem?_map, hi]; rfl) j u hu⟩
def sizesE (e : List Nd) : List Nat := e.map fun y => y.s.size
structure ExprIn (W : World) (v : Value) (e : List Nd) (ws : List Nat) : Prop where
  isE : IsE W v e
  len : e.length ≤ maxLen
  wts : ∀ m ∈ sizesE e, m ∈ ws
theorem expr_in {v : Value} {x : DataW H × List MemPlace} (h : DataW.trod enc Tryz.prog W base (fun _ => true) held fuel 30 [v] = some x) :
    ∃ e : List Nd, ExprIn W v e (x.1.weights Tryz.prog 30) := by
  obtain ⟨L, h1, h2, h3⟩ := slice_in (β := Nd) Tryz.underlying30 cellsNode (by omega) (fun c y => c = ndL y) (fun y => [y.s.size]) h (fun n cs y hy => by
    obtain ⟨z, g1, g2, _, _⟩ := nd_in hy
    exact ⟨z, g1, by rw [g1]; rfl, fun m hm => by rw [List.mem_singleton.1 hm]; exact g2⟩)
  exact ⟨L, sl_of_sg h1, h2, fun m hm => by
    obtain ⟨y, hy, rfl⟩ := List.mem_map.1 hm
    exact h3 y hy _ (List.mem_singleton.2 rfl)⟩
theorem exprs_in {v : Value} {x : DataW H × List MemPlace} (h : DataW.trod enc Tryz.prog W base (fun _ => true) held fuel 22 [v] = some x) :
    ∃ l : List (List Nd), Sg 1 IsL W v l ∧ l.length ≤ maxLen ∧ (∀ e ∈ l, e.length ≤ maxLen) ∧ ∀ e ∈ l, ∀ m ∈ sizesE e, m ∈ x.1.weights Tryz.prog 22 := by
  obtain ⟨L, ⟨cs, g1, g2, g3⟩, h2, h3⟩ := slice_in (β := { e : List Nd // e.length ≤ maxLen }) Tryz.underlying22 cellsExpr (by omega) (fun c y => IsL W c y.1) (fun y => sizesE y.1) h (fun n cs y hy => by
    obtain ⟨u, rfl⟩ : ∃ u, cs = [u] := by
      rcases open_slice Tryz.underlying30 hy with ⟨hcs, _⟩ | ⟨a, len, cap, m, n, D, Pl, hcs, _⟩ <;> exact ⟨_, hcs⟩
    obtain ⟨e, he⟩ := expr_in hy
    exact ⟨⟨e, he.len⟩, ⟨u, rfl, he.isE⟩, rfl, he.wts⟩)
  refine ⟨L.map (·.1), ⟨cs, g1, by simpa using g2, fun i c x hc hx => ?_⟩, by simpa using h2, fun e he => ?_, fun e he m hm => ?_⟩
  · rw [List.getElem?_map] at hx
    obtain ⟨y, hy, rfl⟩ := Option.map_eq_some_iff.1 hx
    exact g3 i c y hc hy
  · obtain ⟨y, hy, rfl⟩ := List.mem_map.1 he
    exact y.2
  · obtain ⟨y, hy, rfl⟩ := List.mem_map.1 he
    exact h3 y hy m hm
theorem has_lt {r : Reach} {b e n : Nat} {a : Addr} (h : W.has Tryz.prog r b a e n) : a.spot = none ∧ a.block < W.heap.size := by
  obtain ⟨_, h1, row, cells, h2, _⟩ := h
  refine ⟨h1, ?_⟩
  unfold World.shape? at h2
  rcases Nat.lt_or_ge a.block W.heap.size with h' | h'
  · exact h'
  · rw [Array.getElem?_eq_none h'] at h2; cases h2
set_option maxRecDepth 100000 in
theorem bools_in {r : Reach} {b : Nat} {v : Value} {x : DataW H × List MemPlace} (hval : Value.okWide Tryz.prog W r b 31 v) (h : DataW.trod enc Tryz.prog W base (fun _ => true) held fuel 31 [v] = some x) :
    ∃ l : List Bool, SlBools W v l ∧ l.length ≤ maxLen := by
  obtain ⟨L, h1, h2, -⟩ := slice_in (β := Bool) Tryz.underlying31 cellsBool (by omega) (fun c y => c = [.bool y]) (fun _ => []) h (fun n cs y hy => by
    obtain ⟨z, g1, _⟩ := DataW.trod_bool Tryz.underlying4 hy
    exact ⟨z, g1, by rw [g1]; rfl, fun m hm => by cases hm⟩)
  refine ⟨L, ?_, h2⟩
  have h3 : Sl (fun y : Bool => [Value.bool y]) 1 W v L := sl_of_sg h1
  rcases h3 with ⟨rfl, a, c, rfl⟩ | ⟨b', o, c, rfl, _, g3, g4⟩
  · simp only [Value.okWide, Tryz.underlying31, Cell.okWide] at hval
    cases a with
    | none =>
      cases c with
      | zero => exact Or.inl ⟨rfl, rfl⟩
      | succ c => simp [Cell.ok, Tryz.underlying31] at hval
    | some a =>
      simp only [Cell.ok, Tryz.underlying31] at hval
      obtain ⟨q1, q2⟩ := has_lt hval.2.2
      exact Or.inr ⟨a.block, a.off, c, by cases a; simp_all, q2, fun i hi => by simp at hi⟩
  · refine Or.inr ⟨b', o, c, rfl, g3, fun i hi => ?_⟩
    have := g4 i _ (List.getElem?_eq_getElem hi) 0 _ rfl
    rw [Nat.mul_one, Nat.add_zero] at this
    rw [this, List.getD_eq_getElem?_getD, List.getElem?_eq_getElem hi]; rfl
end
end Go.Proofs.YtjnpkdpljmkpiaaGreatDoor
namespace Go.Proofs.YtjnpkdpljmkpiaaGreatDoor
open Go.ChangeShapes Go.WideShapes Go.ChangeAt Go.RowKit Go.Deep
theorem handed_sized_and {H : Type} {enc : TypeId × Value → H} {a : Assume} {C : Checked} {os : Os} {f : FuncId} {fn : Func} {s : ChangeSpec} {conds : List PathCond} {apart fresh handsOn again : Bool} {X : World → Array Value → Prop}
    (hX : ∀ (w w' : World) (args : Array Value), w.heap = w'.heap → X w args → X w' args)
    (own : ownKnob C.prog.godebug = none) (started : os.Started) (noInit : C.prog.inits.idxOf? f = none) (hfn : C.prog.funcs[f]? = some fn)
    (witness : ∃ (w : World) (tape : Tape) (i : Input), w.os = os ∧ (w.forCall tape i).Shaped C.prog ∧ i.vars = [] ∧ Input.okWide C.prog (w.forCall tape i) .any w.heap.size f i ∧
      ((s.pre enc C.prog fn conds apart (w.forCall tape i).memory i.args ∧ X (w.forCall tape i).memory i.args) ∧ sizedMet enc C.prog fn (OpenSpec.ofChange s) apart (w.forCall tape i).memory i.args) ∧ a.holds C.prog (lone (Frame.enter C.prog f i.args .normal) [] (w.forCall tape i)))
    (contract : ∀ (W : World) (base : Nat) (args : Array Value) (ds gs : List (DataW H)) (before : List MemPlace),
      (∀ (j : Nat) t v, fn.params[j]? = some t → args[j]? = some v → Value.okWide C.prog W .any base t v) →
      DataW.Whole enc C.prog fn.params.toList s.vars apart W args.toList ds gs before → X W args → W.ShapedOpen C.prog → (DataW.weightsEach C.prog (fn.params.toList ++ s.plain.varTypes C.prog) (ds ++ gs)).all (· ≤ reachBytes) = true →
      Calls C.prog f args W fun e W' => ∃ v, e = .returned v ∧ s.post enc C.prog fn apart fresh handsOn again W args v W') :
    ReturnsInHanded a C os f .any (fun w args => (s.pre enc C.prog fn conds apart w args ∧ X w args) ∧ sizedMet enc C.prog fn (OpenSpec.ofChange s) apart w args) (s.post enc C.prog fn apart fresh handsOn again) := by
  refine returnsInHanded_of_calls own started noInit witness ?_
  intro w tape i _ hsh _ hok hpre _
  obtain ⟨_, _, _, fn', hfn', _, _, _, _, hval⟩ := hok
  obtain rfl : fn' = fn := Option.some.inj (hfn'.symm.trans hfn)
  obtain ⟨⟨⟨ds, gs, before, hw, _⟩, hx⟩, hz⟩ := hpre
  have hzw := hz.weights hw
  have hw' := DataW.Whole.of_heap (w' := w.forCall tape i) (by rfl) hw
  refine (contract (w.forCall tape i) w.heap.size i.args ds gs before hval hw' (hX _ _ _ (by rfl) hx) hsh hzw).mono fun e W' h => ?_
  obtain ⟨v, he, hp⟩ := h
  subst he
  exact ChangeSpec.post_blind hp
noncomputable def rowLaid : List (String × DataW Unit) := Rows.atomsSplitRow.laid
theorem laid_pow : (Rows.laid_internal_strconv_uint64pow10 : DataW Unit) = Lib.tabData .u64 Lib.pow10Tab := by kernel_rfl
theorem tab_of_reads {W : World} (h : Lib.VarReads Tryz.prog W "internal/strconv.uint64pow10" (Lib.tabData .u64 Lib.pow10Tab)) : Lib.TabIs Tryz.prog W "internal/strconv.uint64pow10" .u64 Lib.pow10Tab := by
  obtain ⟨g', t', cs, fuel, p, hg', ht', hvar, hd⟩ := h
  obtain rfl := Option.some.inj ((show Tryz.prog.globalNamed "internal/strconv.uint64pow10" = some 2 by kernel_rfl).symm.trans hg')
  obtain rfl := Option.some.inj ((show (Tryz.prog.globals[2]?).map (·.type) = some 200 by kernel_rfl).symm.trans ht')
  unfold Lib.TabIs
  have := Lib.cells_of_tab Tryz.underlying200 Tryz.underlying190 (by kernel_rfl) (by kernel_rfl) hd
  rw [hvar, ← this]
theorem err_of_reads {W : World} {n : String} {g : Nat} {nm : String} {d : DataW Unit} (hg : Tryz.prog.globalNamed n = some g) (ht : (Tryz.prog.globals[g]?).map (·.type) = some 154) (h : Lib.VarReads Tryz.prog W n (.iface nm d)) : ∃ tp p, W.var? Tryz.prog n = some #[.iface tp p] := by
  obtain ⟨g', t', cs, fuel, p, hg', ht', hvar, hd⟩ := h
  obtain rfl := Option.some.inj (hg.symm.trans hg')
  obtain rfl := Option.some.inj (ht.symm.trans ht')
  obtain ⟨f1, u, v, hcs, _⟩ := iface_of_trod Tryz.underlying154 hd
  refine ⟨u, v, ?_⟩
  rw [hvar]
  congr 1
  rw [← Array.toList_inj]; exact hcs
theorem gl_of {W : World} (hL : laidMetH Tryz.prog rowLaid W) (hs : W.ShapedOpen Tryz.prog) : Gl W := by
  rw [MakeChecks.laidMetH_plain _ _ _ (by kernel_rfl)] at hL
  have r1 : Lib.VarReads Tryz.prog W "internal/strconv.uint64pow10" Rows.laid_internal_strconv_uint64pow10 := Lib.laidMet.reads hL (by unfold rowLaid Rows.atomsSplitRow; simp)
  have r2 : Lib.VarReads Tryz.prog W "strconv.ErrSyntax" Rows.laid_strconv_ErrSyntax := Lib.laidMet.reads hL (by unfold rowLaid Rows.atomsSplitRow; simp)
  have r3 : Lib.VarReads Tryz.prog W "strconv.ErrRange" Rows.laid_strconv_ErrRange := Lib.laidMet.reads hL (by unfold rowLaid Rows.atomsSplitRow; simp)
  rw [laid_pow] at r1
  unfold Rows.laid_strconv_ErrSyntax at r2
  unfold Rows.laid_strconv_ErrRange at r3
  exact ⟨tab_of_reads r1, err_of_reads (g := 0) (by kernel_rfl) (by kernel_rfl) r2, err_of_reads (g := 1) (by kernel_rfl) (by kernel_rfl) r3, hs⟩
theorem own : ownKnob Tryz.prog.godebug = none := by kernel_rfl
theorem laidOut : laidOutB Tryz.prog = true := by kernel_rfl
theorem weigh {H : Type} {P : Program} {ts : List TypeId} {ds : List (DataW H)} (h : (DataW.weightsEach P ts ds).all (· ≤ reachBytes) = true) {j : Nat} {t : TypeId} {d : DataW H} (ht : ts[j]? = some t) (hd : ds[j]? = some d) {n : Nat} (hn : n ∈ d.weights P t) : n ≤ 281474976710656 := by
  have h1 := List.all_eq_true.1 h n (DataW.weights_mem_each ht hd n hn)
  have h2 := reachBytes_lt
  have h3 : n ≤ reachBytes := by simpa using h1
  omega
end Go.Proofs.YtjnpkdpljmkpiaaGreatDoor
