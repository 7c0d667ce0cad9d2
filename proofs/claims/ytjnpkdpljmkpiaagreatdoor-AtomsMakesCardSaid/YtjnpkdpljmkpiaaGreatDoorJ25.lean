/- Walks: Var, Ite, Not, And, Or. Walks: Value, Size, Const, New. -/
import Derived.Test.YtjnpkdpljmkpiaaGreatDoorJ24
namespace Go.Proofs.YtjnpkdpljmkpiaaGreatDoor
open Go.RowKit
set_option maxRecDepth 20000
def FnPost (cnt : Nat) (sem : (Nat → Bool) → Bool) (w : World) (s : St) (e : Ending) (w' : World) : Prop :=
  ∃ (r er : Nat) (s' : St), e = .returned (.tuple #[.int .i64 r, .int .i64 er]) ∧ StoreAt w' s' ∧ More w s s' ∧ Fr s.bl w w' ∧ r < s'.ns.length ∧ s'.ns.length ≤ s.ns.length + cnt ∧
    ((er = 0 ∧ ∀ env, Dd.den s'.ns env r = sem env) ∨ (er = 18 ∧ r = 0 ∧ s'.ns.length = s.budget))
theorem ItePost.fn {w : World} {s : St} {f g k : Nat} {e : Ending} {w' : World} (h : ItePost w s f g k e w') :
    FnPost (2 ^ s.vars) (fun env => if Dd.den s.ns env f then Dd.den s.ns env g else Dd.den s.ns env k) w s e w' := by
  obtain ⟨r, er, s', he, hS, hM, hF, hr, hc, hor⟩ := h
  refine ⟨r, er, s', he, hS, hM, hF, hr, ?_, ?_⟩
  · have : 2 ^ (s.vars - min (Dd.T s.ns f) (min (Dd.T s.ns g) (Dd.T s.ns k))) ≤ 2 ^ s.vars := Nat.pow_le_pow_right (by omega) (by omega)
    omega
  · rcases hor with ⟨h1, _, h2⟩ | h1
    · exact Or.inl ⟨h1, h2⟩
    · exact Or.inr h1
theorem ite_fn (w : World) (s : St) (h : StoreAt w s) (f g k : Nat) (hf : f < s.ns.length) (hg : g < s.ns.length) (hk : k < s.ns.length) :
    Calls Tryz.prog 100 #[.pointer (some ⟨s.sb, 0, none⟩), .int .i64 f, .int .i64 g, .int .i64 k] w
      (FnPost (2 ^ s.vars) (fun env => if Dd.den s.ns env f then Dd.den s.ns env g else Dd.den s.ns env k) w s) :=
  (ite_any _ f g k w s h hf hg hk (Nat.le_refl _)).mono fun _ _ q => q.fn
theorem bl_new {w : World} {s : St} (h : StoreAt w s) {k : Nat} (hk : w.heap.size ≤ k) : ¬ s.bl k := fun hb => by have := h.lt hb; omega
set_option maxHeartbeats 400000 in
theorem var_any (w : World) (s : St) (h : StoreAt w s) (i : Nat) (hi : i < s.vars) :
    Calls Tryz.prog 59 #[.pointer (some ⟨s.sb, 0, none⟩), .int .i64 i] w (FnPost 1 (fun env => env i) w s) := by
  have c0 := h.c0
  have two := h.wf.two
  go_enter Tryz.func59, Tryz.ntmps59
  go_wp2_with fail
  refine (node_any w s h i 0 1 (by omega) (by omega) hi (by rw [Dd.T_const h.wf (by omega)]; exact hi) (by rw [Dd.T_const h.wf (by omega)]; exact hi)).mono ?_
  rintro e w' ⟨r, er, s', rfl, hS, hM, hF, hc, hr, hor⟩
  have HOR : Hid ((er = 0 ∧ ∀ env, Dd.den s'.ns env r = env i) ∨ (er = 18 ∧ r = 0 ∧ s'.ns.length = s.budget)) := by
    rcases hor with ⟨h1, _, h2⟩ | ⟨h1, h2, h3⟩
    · exact Or.inl ⟨h1, fun env => by rw [h2 env, Dd.den_one, Dd.den_zero]; simp⟩
    · exact Or.inr ⟨h1, h2, by have := hS.room; have h4 := hM.budget; have h5 := hM.len; omega⟩
  clear hor
  go_wp2_with fail
  go_ret2
  exact ⟨r, er, s', rfl, hS, hM, hF, hr, hc, HOR.out⟩
set_option maxHeartbeats 400000 in
theorem var_bad (w : World) (s : St) (h : StoreAt w s) (i : Int) (hi : i < 0 ∨ (s.vars : Int) ≤ i) :
    Calls Tryz.prog 59 #[.pointer (some ⟨s.sb, 0, none⟩), .int .i64 i] w fun e w' => e = .returned (.tuple #[.int .i64 0, .int .i64 1]) ∧ w' = w := by
  have c0 := h.c0
  by_cases hi0 : i < 0
  · go_enter Tryz.func59, Tryz.ntmps59
    go_wp2_with fail
    go_ret2
    exact ⟨rfl, rfl⟩
  · have hi1 : (s.vars : Int) ≤ i := by omega
    have hi2 : 0 ≤ i := by omega
    clear hi hi0
    go_enter Tryz.func59, Tryz.ntmps59
    go_wp2_with fail
    go_ret2
    exact ⟨rfl, rfl⟩
theorem SlInts.lit {w : World} {b c : Nat} {l : List Int} {t : TypeId} {fr : Nat × Nat} (hb : w.heap[b]? = some (.cells (l.map (Value.int .i64)).toArray t fr)) (hl : l.length ≤ 1000) : SlInts w (.slice (some ⟨b, 0, none⟩) l.length c) l := by
  refine Or.inr ⟨b, 0, c, rfl, hl, fun i hi => ?_⟩
  rw [cell_of_row w b (0 + i) _ t fr hb]
  simp [List.getD, hi]
theorem SlInts.new3 (w : World) (a b c : Int) : SlInts (w.alloc (.cells #[.int .i64 a, .int .i64 b, .int .i64 c] 3)) (.slice (some ⟨w.heap.size, 0, none⟩) 3 3) [a, b, c] :=
  SlInts.lit (l := [a, b, c]) (heap_alloc_new w _) (by simp)
theorem SlInts.new1 (w : World) (a : Int) : SlInts (w.alloc (.cells #[.int .i64 a] 3)) (.slice (some ⟨w.heap.size, 0, none⟩) 1 1) [a] :=
  SlInts.lit (l := [a]) (heap_alloc_new w _) (by simp)
theorem okIn_nat {n : Nat} {l : List Nat} (h : ∀ f ∈ l, f < n) : okIn n (l.map Int.ofNat) = true := by
  unfold okIn; rw [List.all_eq_true]
  intro x hx
  obtain ⟨f, hf, rfl⟩ := List.mem_map.1 hx
  have := h f hf
  simp; omega
theorem FnPost.from {cnt : Nat} {sem : (Nat → Bool) → Bool} {w w1 w' : World} {s : St} {e : Ending} (hb : Below w.heap.size w w1) (h : FnPost cnt sem w1 s e w') : FnPost cnt sem w s e w' := by
  obtain ⟨r, er, s', he, hS, hM, hF, rest⟩ := h
  exact ⟨r, er, s', he, hS, (More.refl w s).trans hM hb.size, (Fr.of_below hb s.bl).trans hF (fun _ _ q => q), rest⟩
set_option maxHeartbeats 400000 in
theorem Ite_any (w : World) (s : St) (h : StoreAt w s) (f g k : Nat) (hf : f < s.ns.length) (hg : g < s.ns.length) (hk : k < s.ns.length) :
    Calls Tryz.prog 62 #[.pointer (some ⟨s.sb, 0, none⟩), .int .i64 f, .int .i64 g, .int .i64 k] w
      (FnPost (2 ^ s.vars) (fun env => if Dd.den s.ns env f then Dd.den s.ns env g else Dd.den s.ns env k) w s) := by
  have hok : okIn s.ns.length [(f : Int), g, k] = true := okIn_nat (l := [f, g, k]) (by simp; omega)
  go_enter Tryz.func62, Tryz.ntmps62
  go_wp2_with fail
  have hB : Below w.heap.size w (w.alloc (.cells #[.int .i64 f, .int .i64 g, .int .i64 k] 3)) := (Below.refl _ _).alloc (Nat.le_refl _) _
  refine (are_any _ s (h.below hB) _ [(f : Int), g, k] (SlInts.new3 w f g k)).mono ?_
  rintro e w1 ⟨rfl, hw1⟩
  have HW : Hid (w1 = w.alloc (.cells #[.int .i64 f, .int .i64 g, .int .i64 k] 3)) := hw1
  have hS1 : StoreAt w1 s := by rw [hw1]; exact h.below hB
  have hB1 : Below w.heap.size w w1 := by rw [hw1]; exact hB
  clear hw1 hB
  go_wp2_with fail
  refine (ite_fn w1 s hS1 f g k hf hg hk).mono ?_
  rintro e w2 hq
  have hq' := FnPost.from hB1 hq
  obtain ⟨r, er, s', rfl, rest⟩ := hq'
  clear hq
  have HR := @Hid.out _ (show Hid _ from rest)
  clear rest HW
  go_wp2_with fail
  go_ret2
  exact ⟨r, er, s', rfl, HR⟩
theorem SlInts.alloc {w : World} {v : Value} {l : List Int} (h : SlInts w v l) (o : Obj) : SlInts (w.alloc o) v l := by
  rcases h with h | ⟨b, of, c, rfl, hl, hc⟩
  · exact Or.inl h
  · refine Or.inr ⟨b, of, c, rfl, hl, fun i hi => ?_⟩
    rw [World.cell?_of_block (w := w) (Below.heap_alloc _ _ _ (World.block_lt_of_cell? _ _ (hc i hi)))]; exact hc i hi
def SlFns (w : World) (s : St) (v : Value) (l : List Nat) : Prop :=
  (v = .slice none 0 0 ∧ l = []) ∨ ∃ b o c, v = .slice (some ⟨b, o, none⟩) l.length c ∧ l.length ≤ 1000 ∧ b < w.heap.size ∧ ¬ s.bl b ∧ ∀ i, i < l.length → w.cell? ⟨b, o + i, none⟩ = some (.int .i64 (l.getD i 0))
theorem SlFns.ints {w : World} {s : St} {v : Value} {l : List Nat} (h : SlFns w s v l) : SlInts w v (l.map Int.ofNat) := by
  rcases h with ⟨h1, rfl⟩ | ⟨b, o, c, rfl, hl, _, _, hc⟩
  · exact Or.inl ⟨h1, rfl⟩
  · refine Or.inr ⟨b, o, c, by simp, by simpa using hl, fun i hi => ?_⟩
    simp at hi
    rw [hc i hi]; simp [List.getD, hi]
theorem all_take (p : Nat → Bool) (l : List Nat) (k : Nat) (hk : k < l.length) : (l.take (k + 1)).all p = ((l.take k).all p && p (l.getD k 0)) := by
  rw [List.take_succ_eq_append_getElem hk, List.all_append]; simp [List.getD, hk]
end Go.Proofs.YtjnpkdpljmkpiaaGreatDoor
namespace Go.Proofs.YtjnpkdpljmkpiaaGreatDoor
open Go.RowKit
set_option maxRecDepth 20000
set_option maxHeartbeats 400000 in
theorem ConstS_any (w : World) (a : Addr) (b : Bool) :
    Calls Tryz.prog 61 #[.pointer (some a), .bool b] w fun e w' => e = .returned (.int .i64 (if b then 1 else 0)) ∧ w' = w := by
  cases b
  · go_enter Tryz.func61, Tryz.ntmps61
    go_wp2_with fail
    go_ret
    exact ⟨rfl, rfl⟩
  · go_enter Tryz.func61, Tryz.ntmps61
    go_wp2_with fail
    go_ret
    exact ⟨rfl, rfl⟩
set_option maxHeartbeats 400000 in
theorem New_bad (w : World) (v b : Int) (hbad : v < 0 ∨ 30 < v ∨ b < 2 ∨ 10000 < b) :
    Calls Tryz.prog 24 #[.int .i64 v, .int .i64 b] w fun e w' => e = .returned (.tuple #[.pointer none, .int .i64 1]) ∧ w' = w := by
  by_cases h1 : v < 0
  · go_enter Tryz.func24, Tryz.ntmps24
    go_wp2_with fail
    go_ret2
    exact ⟨rfl, rfl⟩
  · by_cases h2 : 30 < v
    · go_enter Tryz.func24, Tryz.ntmps24
      go_wp2_with fail
      go_ret2
      exact ⟨rfl, rfl⟩
    · by_cases h3 : b < 2
      · go_enter Tryz.func24, Tryz.ntmps24
        go_wp2_with fail
        go_ret2
        exact ⟨rfl, rfl⟩
      · have h4 : 10000 < b := by omega
        go_enter Tryz.func24, Tryz.ntmps24
        go_wp2_with fail
        go_ret2
        exact ⟨rfl, rfl⟩
theorem heap_alloc_at (w : World) (o : Obj) (k : Nat) : (w.alloc o).heap[k]? = if k = w.heap.size then some o else w.heap[k]? := by
  show (w.heap.push o)[k]? = _
  rw [Array.getElem?_push]
theorem store_new (w : World) (v b : Nat) (hv : v ≤ 30) (hb : 2 ≤ b) (hb2 : b ≤ 10000) :
    StoreAt ((((w.alloc (.cells #[.int .i64 v, .int .i64 0, .int .i64 0, .int .i64 v, .int .i64 1, .int .i64 1] 108)).alloc (.map #[] 0)).alloc (.map #[] 0)).alloc
      (.cells #[.int .i64 v, .int .i64 b, .slice (some ⟨w.heap.size, 0, none⟩) 2 2, .map (some (w.heap.size + 1)), .map (some (w.heap.size + 1 + 1))] 113))
      ⟨w.heap.size + 1 + 1 + 1, w.heap.size, w.heap.size + 1, w.heap.size + 1 + 1, v, b, 2, [(v, 0, 0), (v, 1, 1)], []⟩ := by
  have z : ∀ (x : World) (o : Obj), (x.alloc o).heap.size = x.heap.size + 1 := fun x o => by show (x.heap.push o).size = _; simp
  refine ⟨?_, ⟨by simp [flat], Or.inr ⟨w.heap.size, 2, #[.int .i64 v, .int .i64 0, .int .i64 0, .int .i64 v, .int .i64 1, .int .i64 1], rfl, Nat.zero_le _, ?_, Nat.le_refl _, by unfold maxLen; omega, ?_, ?_⟩⟩, ⟨#[], 0, ?_, rfl⟩, ⟨#[], 0, ?_, rfl⟩, ?_, Dd.WF_new v, hv, by simpa using hb, hb2, by simp⟩
  · simp only [heap_alloc_at, z]; simp
  · simp only [heap_alloc_at, z]; rw [if_neg (by omega), if_neg (by omega), if_neg (by omega), if_pos True.intro]
  · rfl
  · rfl
  · simp only [heap_alloc_at, z]; simp
  · simp only [heap_alloc_at, z]; simp
  · simp; omega
set_option maxHeartbeats 400000 in
theorem New_ok (w : World) (v b : Nat) (hv : v ≤ 30) (hb : 2 ≤ b) (hb2 : b ≤ 10000) :
    Calls Tryz.prog 24 #[.int .i64 v, .int .i64 b] w fun e w' => ∃ s : St, e = .returned (.tuple #[.pointer (some ⟨s.sb, 0, none⟩), .int .i64 0]) ∧ StoreAt w' s ∧ s.vars = v ∧ s.budget = b ∧ s.ns = [(v, 0, 0), (v, 1, 1)] ∧ Below w.heap.size w w' ∧ (∀ k, s.bl k → w.heap.size ≤ k) := by
  have hmm := @run_makeMap Tryz.prog
  go_enter Tryz.func24, Tryz.ntmps24
  go_wp2_with fail
  go_ret2
  exact ⟨⟨w.heap.size + 1 + 1 + 1, w.heap.size, w.heap.size + 1, w.heap.size + 1 + 1, v, b, 2, [(v, 0, 0), (v, 1, 1)], []⟩, rfl, store_new w v b hv hb hb2, rfl, rfl, rfl,
    ((((Below.refl _ _).alloc (Nat.le_refl _) _).alloc (by simp) _).alloc (by simp; omega) _).alloc (by simp; omega) _, fun k hk => by rcases hk with rfl | rfl | rfl | rfl <;> simp <;> omega⟩
def SlBools (w : World) (v : Value) (l : List Bool) : Prop :=
  (v = .slice none 0 0 ∧ l = []) ∨ ∃ b o c, v = .slice (some ⟨b, o, none⟩) l.length c ∧ b < w.heap.size ∧ ∀ i, i < l.length → w.cell? ⟨b, o + i, none⟩ = some (.bool (l.getD i false))
theorem SlBools.below {w w' : World} {v : Value} {l : List Bool} (h : SlBools w v l) (hb : Below w.heap.size w w') : SlBools w' v l := by
  rcases h with h | ⟨b, o, c, rfl, hl, hc⟩
  · exact Or.inl h
  · exact Or.inr ⟨b, o, c, rfl, Nat.lt_of_lt_of_le hl hb.size, fun i hi => (hb.cell hl).trans (hc i hi)⟩
def envOf (l : List Bool) : Nat → Bool := fun i => l.getD i false
set_option maxHeartbeats 1000000 in
theorem Value_any (w : World) (s : St) (h : StoreAt w s) (f : Nat) (hf : f < s.ns.length) (v : Value) (l : List Bool) (hl : SlBools w v l) (hlen : l.length = s.vars) :
    Calls Tryz.prog 28 #[.pointer (some ⟨s.sb, 0, none⟩), .int .i64 f, v] w fun e w' => e = .returned (.tuple #[.bool (Dd.den s.ns (envOf l) f), .int .i64 0]) ∧ Below w.heap.size w w' := by
  have hok : okIn s.ns.length [(f : Int)] = true := okIn_nat (l := [f]) (by simpa using hf)
  have hB : Below w.heap.size w (w.alloc (.cells #[.int .i64 f] 3)) := (Below.refl _ _).alloc (Nat.le_refl _) _
  obtain ⟨a, n, c, rfl, hn⟩ : ∃ a n c, v = .slice a n c ∧ n = l.length := by
    rcases hl with ⟨rfl, rfl⟩ | ⟨b, o, c, rfl, _⟩
    · exact ⟨_, _, _, rfl, rfl⟩
    · exact ⟨_, _, _, rfl, rfl⟩
  have hne : ((n : Int) != (s.vars : Int)) = false := by simp; omega
  go_enter Tryz.func28, Tryz.ntmps28
  go_wp2_with fail
  refine (are_any _ s (h.below hB) _ [(f : Int)] (SlInts.new1 w f)).mono ?_
  rintro e w1 ⟨rfl, hw1⟩
  rw [hok]
  have hS1 : StoreAt w1 s := by rw [hw1]; exact h.below hB
  have hl1 : SlBools w1 (.slice a n c) l := by rw [hw1]; exact hl.below hB
  have hB1 : Below w.heap.size w w1 := by rw [hw1]; exact hB
  have c0 := hS1.c0
  have HN : Hid (n = l.length) := hn
  clear hw1 hB hok hn
  go_wp2_with fail
  clear hne
  go_loopw [1] (fun x wr => ∃ f' : Nat, x = .int .i64 f' ∧ f' < s.ns.length ∧ Below w.heap.size w wr ∧ StoreAt wr s ∧ SlBools wr (.slice a n c) l ∧ Dd.den s.ns (envOf l) f' = Dd.den s.ns (envOf l) f) (fun x _ => (intOf x).toNat)
  case atStart => exact ⟨f, rfl, hf, hB1, hS1, hl1, rfl⟩
  case round =>
    obtain ⟨f', rfl, hf', hBr, hSr, hlr, hden⟩ := hrel
    have hlenr := hSr.len
    clear c0 hl1 hS1
    by_cases h2 : 2 ≤ f'
    · obtain ⟨_, hL, hH, hT, _⟩ := h.wf.nd f' h2 hf'
      have hst := Dd.den_step h.wf (envOf l) h2 hf'
      obtain ⟨b, o, ha, hc⟩ : ∃ b o, a = some ⟨b, o, none⟩ ∧ ∀ i, i < l.length → wr.cell? ⟨b, o + i, none⟩ = some (.bool (l.getD i false)) := by
        rcases hlr with ⟨_, rfl⟩ | ⟨b, o, c', he, _, hc⟩
        · simp at hlen; omega
        · simp at he; exact ⟨b, o, he.1, hc⟩
      have hct := hc (Dd.T s.ns f') (by omega)
      have hTn : Dd.T s.ns f' < n := by have := HN.out; omega
      subst ha
      have c2 := hSr.c2
      have n0 := hSr.n0 hf'
      obtain ⟨x, hx⟩ : ∃ x, x = l.getD (Dd.T s.ns f') false := ⟨_, rfl⟩
      rw [← hx] at hct
      have HX : Hid (x = l.getD (Dd.T s.ns f') false) := hx
      have HST : Hid (Dd.den s.ns (envOf l) f' = if envOf l (Dd.T s.ns f') = true then Dd.den s.ns (envOf l) (Dd.H s.ns f') else Dd.den s.ns (envOf l) (Dd.L s.ns f')) := hst
      have HD : Hid (Dd.den s.ns (envOf l) f' = Dd.den s.ns (envOf l) f) := hden
      clear hx hst hden hc
      go_wp2_with fail
      go_still_tail 21, (by kernel_rfl)
      go_wp2_with fail
      have hBd : Below wr.heap.size wr wr.drew := (Below.refl _ _).drew
      refine (half_any wr.drew s (hSr.below hBd) f' (Dd.T s.ns f') x hf').mono ?_
      rintro e w2 ⟨rfl, hb2⟩
      have hb3 : Below wr.heap.size wr w2 := hBd.trans hb2
      have HS2 := hSr.below hb3
      have HL2 := hlr.below hb3
      have HB2 := hBr.trans (hb3.mono hBr.size)
      have HH : Hid (Dd.half s.ns f' (Dd.T s.ns f') x < f' ∧ Dd.half s.ns f' (Dd.T s.ns f') x < s.ns.length ∧ Dd.den s.ns (envOf l) (Dd.half s.ns f' (Dd.T s.ns f') x) = Dd.den s.ns (envOf l) f) := by
        have hx := HX.out
        refine ⟨?_, Dd.half_lt h.wf hf', ?_⟩
        · unfold Dd.half; simp only [ne_eq, not_true_eq_false, if_false]; split <;> omega
        · rw [← HD.out, HST.out]
          unfold Dd.half envOf
          simp only [ne_eq, not_true_eq_false, if_false]
          rw [hx]; split <;> rfl
      clear hb2 hb3 hBd
      go_wp2_with fail
      go_roundw
      case rel => exact ⟨_, rfl, HH.out.2.1, HB2, HS2, HL2, HH.out.2.2⟩
      case measure => have := HH.out.1; simp [intOf]; omega
    · have HD : Hid (Dd.den s.ns (envOf l) f' = Dd.den s.ns (envOf l) f) := hden
      have hfe : f' = 0 ∨ f' = 1 := by omega
      clear hden
      rcases hfe with rfl | rfl
      · rw [Dd.den_zero] at HD
        go_wp2_with fail
        go_ret2
        exact ⟨by rw [← HD.out]; rfl, hBr⟩
      · rw [Dd.den_one] at HD
        go_wp2_with fail
        go_ret2
        exact ⟨by rw [← HD.out]; rfl, hBr⟩
end Go.Proofs.YtjnpkdpljmkpiaaGreatDoor
