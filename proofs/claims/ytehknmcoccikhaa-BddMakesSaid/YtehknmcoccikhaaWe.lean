/- Walks: Var, Ite, Not, And, Or. -/
import Derived.Test.YtehknmcoccikhaaWd
namespace Go.Proofs.Ytehknmcoccikhaa
open Go.RowKit

/-- What a call that makes a function leaves: that function, or no room. -/
def FnPost (cnt : Nat) (sem : (Nat → Bool) → Bool) (w : World) (s : St) (e : Ending) (w' : World) : Prop :=
  ∃ (r er : Nat) (s' : St), e = .returned (.tuple #[.int .i64 r, .int .i64 er]) ∧ StoreAt w' s' ∧ More w s s' ∧ Fr s.bl w w' ∧ r < s'.ns.length ∧ s'.ns.length ≤ s.ns.length + cnt ∧
    ((er = 0 ∧ ∀ env, Dd.den s'.ns env r = sem env) ∨ (er = 18 ∧ r = 0 ∧ s'.ns.length = s.budget))

theorem ItePost.fn {w : World} {s : St} {f g k : Nat} {e : Ending} {w' : World} (h : ItePost w s f g k e w') :
    FnPost (2 ^ s.vars) (fun env => if Dd.den s.ns env f then Dd.den s.ns env g else Dd.den s.ns env k) w s e w' := by
  obtain ⟨r, er, s', he, hS, hM, hF, hr, hc, hor⟩ := h
  refine ⟨r, er, s', he, hS, hM, hF, hr, ?_, ?_⟩
  · have : 2 ^ (s.vars - min (Dd.T s.ns f) (min (Dd.T s.ns g) (Dd.T s.ns k))) ≤ 2 ^ s.vars := Nat.pow_le_pow_right (by omega) (by omega)
    omega
  · rcases hor with ⟨h1, _, h2⟩ | h1
    · exact Or.inl ⟨h1, h2⟩
    · exact Or.inr h1

theorem ite_fn (w : World) (s : St) (h : StoreAt w s) (f g k : Nat) (hf : f < s.ns.length) (hg : g < s.ns.length) (hk : k < s.ns.length) :
    Calls Try.prog 35 #[.pointer (some ⟨s.sb, 0, none⟩), .int .i64 f, .int .i64 g, .int .i64 k] w
      (FnPost (2 ^ s.vars) (fun env => if Dd.den s.ns env f then Dd.den s.ns env g else Dd.den s.ns env k) w s) :=
  (ite_any _ f g k w s h hf hg hk (Nat.le_refl _)).mono fun _ _ q => q.fn

/-- The whole of a call's own memory is new. -/
theorem bl_new {w : World} {s : St} (h : StoreAt w s) {k : Nat} (hk : w.heap.size ≤ k) : ¬ s.bl k := fun hb => by have := h.lt hb; omega

set_option maxHeartbeats 400000 in
theorem var_any (w : World) (s : St) (h : StoreAt w s) (i : Nat) (hi : i < s.vars) :
    Calls Try.prog 15 #[.pointer (some ⟨s.sb, 0, none⟩), .int .i64 i] w (FnPost 1 (fun env => env i) w s) := by
  have c0 := h.c0
  have two := h.wf.two
  go_enter Try.func15, Try.ntmps15
  go_wp2_with fail
  refine (node_any w s h i 0 1 (by omega) (by omega) hi (by rw [Dd.T_const h.wf (by omega)]; exact hi) (by rw [Dd.T_const h.wf (by omega)]; exact hi)).mono ?_
  rintro e w' ⟨r, er, s', rfl, hS, hM, hF, hc, hr, hor⟩
  have HOR : Hid ((er = 0 ∧ ∀ env, Dd.den s'.ns env r = env i) ∨ (er = 18 ∧ r = 0 ∧ s'.ns.length = s.budget)) := by
    rcases hor with ⟨h1, _, h2⟩ | ⟨h1, h2, h3⟩
    · exact Or.inl ⟨h1, fun env => by rw [h2 env, Dd.den_one, Dd.den_zero]; simp⟩
    · exact Or.inr ⟨h1, h2, by have := hS.room; have h4 := hM.budget; have h5 := hM.len; omega⟩
  clear hor
  go_wp2_with fail
  go_ret2
  exact ⟨r, er, s', rfl, hS, hM, hF, hr, hc, HOR.out⟩

set_option maxHeartbeats 400000 in
theorem var_bad (w : World) (s : St) (h : StoreAt w s) (i : Int) (hi : i < 0 ∨ (s.vars : Int) ≤ i) :
    Calls Try.prog 15 #[.pointer (some ⟨s.sb, 0, none⟩), .int .i64 i] w fun e w' => e = .returned (.tuple #[.int .i64 0, .int .i64 1]) ∧ w' = w := by
  have c0 := h.c0
  by_cases hi0 : i < 0
  · go_enter Try.func15, Try.ntmps15
    go_wp2_with fail
    go_ret2
    exact ⟨rfl, rfl⟩
  · have hi1 : (s.vars : Int) ≤ i := by omega
    have hi2 : 0 ≤ i := by omega
    clear hi hi0
    go_enter Try.func15, Try.ntmps15
    go_wp2_with fail
    go_ret2
    exact ⟨rfl, rfl⟩

set_option maxHeartbeats 400000 in
theorem var_nil (w : World) (i : Int) :
    Calls Try.prog 15 #[.pointer none, .int .i64 i] w fun e w' => e = .returned (.tuple #[.int .i64 0, .int .i64 1]) ∧ w' = w := by
  go_enter Try.func15, Try.ntmps15
  go_wp2_with fail
  go_ret2
  exact ⟨rfl, rfl⟩

/-- A slice that the call has just laid. -/
theorem SlInts.lit {w : World} {b c : Nat} {l : List Int} {t : TypeId} {fr : Nat × Nat} (hb : w.heap[b]? = some (.cells (l.map (Value.int .i64)).toArray t fr)) (hl : l.length ≤ 1000) : SlInts w (.slice (some ⟨b, 0, none⟩) l.length c) l := by
  refine Or.inr ⟨b, 0, c, rfl, hl, fun i hi => ?_⟩
  rw [cell_of_row w b (0 + i) _ t fr hb]
  simp [List.getD, hi]
theorem SlInts.new3 (w : World) (a b c : Int) : SlInts (w.alloc (.cells #[.int .i64 a, .int .i64 b, .int .i64 c] 3)) (.slice (some ⟨w.heap.size, 0, none⟩) 3 3) [a, b, c] :=
  SlInts.lit (l := [a, b, c]) (heap_alloc_new w _) (by simp)
theorem SlInts.new2 (w : World) (a b : Int) : SlInts (w.alloc (.cells #[.int .i64 a, .int .i64 b] 3)) (.slice (some ⟨w.heap.size, 0, none⟩) 2 2) [a, b] :=
  SlInts.lit (l := [a, b]) (heap_alloc_new w _) (by simp)
theorem SlInts.new1 (w : World) (a : Int) : SlInts (w.alloc (.cells #[.int .i64 a] 3)) (.slice (some ⟨w.heap.size, 0, none⟩) 1 1) [a] :=
  SlInts.lit (l := [a]) (heap_alloc_new w _) (by simp)

theorem okIn_nat {n : Nat} {l : List Nat} (h : ∀ f ∈ l, f < n) : okIn n (l.map Int.ofNat) = true := by
  unfold okIn; rw [List.all_eq_true]
  intro x hx
  obtain ⟨f, hf, rfl⟩ := List.mem_map.1 hx
  have := h f hf
  simp; omega

theorem FnPost.from {cnt : Nat} {sem : (Nat → Bool) → Bool} {w w1 w' : World} {s : St} {e : Ending} (hb : Below w.heap.size w w1) (h : FnPost cnt sem w1 s e w') : FnPost cnt sem w s e w' := by
  obtain ⟨r, er, s', he, hS, hM, hF, rest⟩ := h
  exact ⟨r, er, s', he, hS, (More.refl w s).trans hM hb.size, (Fr.of_below hb s.bl).trans hF (fun _ _ q => q), rest⟩

set_option maxHeartbeats 400000 in
theorem Ite_any (w : World) (s : St) (h : StoreAt w s) (f g k : Nat) (hf : f < s.ns.length) (hg : g < s.ns.length) (hk : k < s.ns.length) :
    Calls Try.prog 16 #[.pointer (some ⟨s.sb, 0, none⟩), .int .i64 f, .int .i64 g, .int .i64 k] w
      (FnPost (2 ^ s.vars) (fun env => if Dd.den s.ns env f then Dd.den s.ns env g else Dd.den s.ns env k) w s) := by
  have hok : okIn s.ns.length [(f : Int), g, k] = true := okIn_nat (l := [f, g, k]) (by simp; omega)
  go_enter Try.func16, Try.ntmps16
  go_wp2_with fail
  have hB : Below w.heap.size w (w.alloc (.cells #[.int .i64 f, .int .i64 g, .int .i64 k] 3)) := (Below.refl _ _).alloc (Nat.le_refl _) _
  refine (are_any _ s (h.below hB) _ [(f : Int), g, k] (SlInts.new3 w f g k)).mono ?_
  rintro e w1 ⟨rfl, hw1⟩
  have HW : Hid (w1 = w.alloc (.cells #[.int .i64 f, .int .i64 g, .int .i64 k] 3)) := hw1
  have hS1 : StoreAt w1 s := by rw [hw1]; exact h.below hB
  have hB1 : Below w.heap.size w w1 := by rw [hw1]; exact hB
  clear hw1 hB
  go_wp2_with fail
  refine (ite_fn w1 s hS1 f g k hf hg hk).mono ?_
  rintro e w2 hq
  have hq' := FnPost.from hB1 hq
  obtain ⟨r, er, s', rfl, rest⟩ := hq'
  clear hq
  have HR := @Hid.out _ (show Hid _ from rest)
  clear rest HW
  go_wp2_with fail
  go_ret2
  exact ⟨r, er, s', rfl, HR⟩

theorem SlInts.alloc {w : World} {v : Value} {l : List Int} (h : SlInts w v l) (o : Obj) : SlInts (w.alloc o) v l := by
  rcases h with h | ⟨b, of, c, rfl, hl, hc⟩
  · exact Or.inl h
  · refine Or.inr ⟨b, of, c, rfl, hl, fun i hi => ?_⟩
    rw [World.cell?_of_block (w := w) (Below.heap_alloc _ _ _ (World.block_lt_of_cell? _ _ (hc i hi)))]; exact hc i hi

set_option maxHeartbeats 400000 in
theorem Ite_bad (w : World) (s : St) (h : StoreAt w s) (f g k : Int) (hok : okIn s.ns.length [f, g, k] = false) :
    Calls Try.prog 16 #[.pointer (some ⟨s.sb, 0, none⟩), .int .i64 f, .int .i64 g, .int .i64 k] w fun e w' => e = .returned (.tuple #[.int .i64 0, .int .i64 1]) ∧ Below w.heap.size w w' := by
  go_enter Try.func16, Try.ntmps16
  go_wp2_with fail
  have hB : Below w.heap.size w (w.alloc (.cells #[.int .i64 f, .int .i64 g, .int .i64 k] 3)) := (Below.refl _ _).alloc (Nat.le_refl _) _
  refine (are_any _ s (h.below hB) _ [f, g, k] (SlInts.new3 w f g k)).mono ?_
  rintro e w1 ⟨rfl, hw1⟩
  have hB1 : Below w.heap.size w w1 := by rw [hw1]; exact hB
  clear hw1 hB
  go_wp2_with fail
  go_ret2
  exact ⟨rfl, hB1⟩

set_option maxHeartbeats 400000 in
theorem Ite_nil (w : World) (f g k : Int) :
    Calls Try.prog 16 #[.pointer none, .int .i64 f, .int .i64 g, .int .i64 k] w fun e w' => e = .returned (.tuple #[.int .i64 0, .int .i64 1]) ∧ Below w.heap.size w w' := by
  go_enter Try.func16, Try.ntmps16
  go_wp2_with fail
  have hB : Below w.heap.size w (w.alloc (.cells #[.int .i64 f, .int .i64 g, .int .i64 k] 3)) := (Below.refl _ _).alloc (Nat.le_refl _) _
  refine (are_nil _ _ f [g, k] (SlInts.new3 w f g k)).mono ?_
  rintro e w1 ⟨rfl, hw1⟩
  have hB1 : Below w.heap.size w w1 := by rw [hw1]; exact hB
  clear hw1 hB
  go_wp2_with fail
  go_ret2
  exact ⟨rfl, hB1⟩

set_option maxHeartbeats 400000 in
theorem Not_any (w : World) (s : St) (h : StoreAt w s) (f : Nat) (hf : f < s.ns.length) :
    Calls Try.prog 17 #[.pointer (some ⟨s.sb, 0, none⟩), .int .i64 f] w (FnPost (2 ^ s.vars) (fun env => !Dd.den s.ns env f) w s) := by
  have two := h.wf.two
  go_enter Try.func17, Try.ntmps17
  go_wp2_with fail
  refine (Ite_any w s h f 0 1 hf (by omega) (by omega)).mono ?_
  rintro e w2 ⟨r, er, s', rfl, hS, hM, hF, hr, hc, hor⟩
  have HR : Hid (s'.ns.length ≤ s.ns.length + 2 ^ s.vars ∧ ((er = 0 ∧ ∀ env, Dd.den s'.ns env r = !Dd.den s.ns env f) ∨ (er = 18 ∧ r = 0 ∧ s'.ns.length = s.budget))) := by
    refine ⟨hc, hor.imp (fun ⟨q1, q2⟩ => ⟨q1, fun env => ?_⟩) id⟩
    rw [q2 env]
    show (if Dd.den s.ns env f then Dd.den s.ns env 0 else Dd.den s.ns env 1) = _
    rw [Dd.den_zero, Dd.den_one]; cases Dd.den s.ns env f <;> rfl
  clear hor hc
  go_wp2_with fail
  go_ret2
  exact ⟨r, er, s', rfl, hS, hM, hF, hr, HR.out⟩

set_option maxHeartbeats 400000 in
theorem Not_bad (w : World) (s : St) (h : StoreAt w s) (f : Int) (hf : f < 0 ∨ (s.ns.length : Int) ≤ f) :
    Calls Try.prog 17 #[.pointer (some ⟨s.sb, 0, none⟩), .int .i64 f] w fun e w' => e = .returned (.tuple #[.int .i64 0, .int .i64 1]) ∧ Below w.heap.size w w' := by
  go_enter Try.func17, Try.ntmps17
  go_wp2_with fail
  refine (Ite_bad w s h f 0 1 (by simp [okIn]; omega)).mono ?_
  rintro e w2 ⟨rfl, hB⟩
  go_wp2_with fail
  go_ret2
  exact ⟨rfl, hB⟩

set_option maxHeartbeats 400000 in
theorem Not_nil (w : World) (f : Int) :
    Calls Try.prog 17 #[.pointer none, .int .i64 f] w fun e w' => e = .returned (.tuple #[.int .i64 0, .int .i64 1]) ∧ Below w.heap.size w w' := by
  go_enter Try.func17, Try.ntmps17
  go_wp2_with fail
  refine (Ite_nil w f 0 1).mono ?_
  rintro e w2 ⟨rfl, hB⟩
  go_wp2_with fail
  go_ret2
  exact ⟨rfl, hB⟩

/-- A slice of functions that lies apart from the store. -/
def SlFns (w : World) (s : St) (v : Value) (l : List Nat) : Prop :=
  (v = .slice none 0 0 ∧ l = []) ∨ ∃ b o c, v = .slice (some ⟨b, o, none⟩) l.length c ∧ l.length ≤ 1000 ∧ b < w.heap.size ∧ ¬ s.bl b ∧ ∀ i, i < l.length → w.cell? ⟨b, o + i, none⟩ = some (.int .i64 (l.getD i 0))

theorem SlFns.ints {w : World} {s : St} {v : Value} {l : List Nat} (h : SlFns w s v l) : SlInts w v (l.map Int.ofNat) := by
  rcases h with ⟨h1, rfl⟩ | ⟨b, o, c, rfl, hl, _, _, hc⟩
  · exact Or.inl ⟨h1, rfl⟩
  · refine Or.inr ⟨b, o, c, by simp, by simpa using hl, fun i hi => ?_⟩
    simp at hi
    rw [hc i hi]; simp [List.getD, hi]

theorem all_take (p : Nat → Bool) (l : List Nat) (k : Nat) (hk : k < l.length) : (l.take (k + 1)).all p = ((l.take k).all p && p (l.getD k 0)) := by
  rw [List.take_succ_eq_append_getElem hk, List.all_append]; simp [List.getD, hk]
theorem any_take (p : Nat → Bool) (l : List Nat) (k : Nat) (hk : k < l.length) : (l.take (k + 1)).any p = ((l.take k).any p || p (l.getD k 0)) := by
  rw [List.take_succ_eq_append_getElem hk, List.any_append]; simp [List.getD, hk]

set_option maxHeartbeats 1000000 in
theorem And_any (w : World) (s : St) (h : StoreAt w s) (v : Value) (l : List Nat) (hl : SlFns w s v l) (hok : ∀ f ∈ l, f < s.ns.length) :
    Calls Try.prog 18 #[.pointer (some ⟨s.sb, 0, none⟩), v] w (FnPost (l.length * 2 ^ s.vars) (fun env => l.all (Dd.den s.ns env)) w s) := by
  have two := h.wf.two
  have HOK : Hid (okIn s.ns.length (l.map Int.ofNat) = true) := okIn_nat hok
  have hI := hl.ints
  rcases hl with ⟨rfl, rfl⟩ | ⟨b, o, c, rfl, hm, hlt, hnb, hc⟩
  · go_enter Try.func18, Try.ntmps18
    go_wp2_with fail
    refine (are_any w s h _ _ hI).mono ?_
    rintro e w1 ⟨rfl, rfl⟩
    rw [HOK.out]
    go_wp2_with fail
    go_loop [6, 7, 9, 16] (fun a e _ i => a = .int .i64 1 ∧ e = .int .i64 0 ∧ i = .int .i64 0) (fun _ _ _ _ => 0)
    case atStart => exact ⟨rfl, rfl, rfl⟩
    case round =>
      obtain ⟨rfl, rfl, rfl⟩ := hrel
      go_wp2_with fail
      go_ret2
      exact ⟨1, 0, s, rfl, h, More.refl _ _, Fr.refl _ _, by omega, by omega, Or.inl ⟨rfl, fun env => by simp [Dd.den_one]⟩⟩
  · go_enter Try.func18, Try.ntmps18
    go_wp2_with fail
    refine (are_any w s h _ _ hI).mono ?_
    rintro e w1 ⟨rfl, rfl⟩
    rw [HOK.out]
    go_wp2_with fail
    go_loopw [6, 7, 9, 16] (fun a e _ i wr => ∃ (k r : Nat) (s' : St), k ≤ l.length ∧ i = .int .i64 k ∧ a = .int .i64 r ∧ e = .int .i64 0 ∧ StoreAt wr s' ∧ More w1 s s' ∧ Fr s.bl w1 wr ∧ r < s'.ns.length ∧ s'.ns.length ≤ s.ns.length + k * 2 ^ s.vars ∧
        ∀ env, Dd.den s'.ns env r = (l.take k).all (Dd.den s.ns env)) (fun _ _ _ i _ => l.length - (intOf i).toNat)
    case atStart => exact ⟨0, 1, s, Nat.zero_le _, rfl, rfl, rfl, h, More.refl _ _, Fr.refl _ _, by omega, by omega, fun env => by simp [Dd.den_one]⟩
    case round =>
      obtain ⟨k, r, s', hk, rfl, rfl, rfl, hS, hM, hF, hr, hcn, hsem⟩ := hrel
      by_cases hlt' : k < l.length
      · have hck := (hF.cell (p := ⟨b, o + k, none⟩) hlt hnb).trans (hc k hlt')
        have hx := hok (l.getD k 0) (by simp [List.getD, hlt'])
        have HA := fun env => all_take (Dd.den s.ns env) l k hlt'
        obtain ⟨x, hxe⟩ : ∃ x, x = l.getD k 0 := ⟨_, rfl⟩
        rw [← hxe] at hck hx HA
        have HX : Hid (x = l.getD k 0) := hxe
        have hMl := hM.len
        clear hc hxe
        go_wp2_with fail
        have HH := ite_fn wr s' hS r x 0 hr (by omega) (by omega)
        rw [hM.sb] at HH
        refine HH.mono ?_
        clear HH
        rintro e w2 ⟨r2, er, s2, rfl, hS2, hM2, hF2, hr2, hc2, hor⟩
        rw [hM.vars] at hc2
        have HM := hM.trans hM2 hF.size
        have HF := hF.trans hF2 (fun i hi q => hM.bl i hi q)
        have HC : Hid (s2.ns.length ≤ s.ns.length + (k + 1) * 2 ^ s.vars) := by show _ ≤ _; rw [Nat.succ_mul]; omega
        have HC2 : Hid (s2.ns.length ≤ s.ns.length + l.length * 2 ^ s.vars) := by
          have h1 := HC.out
          have h2 : (k + 1) * 2 ^ s.vars ≤ l.length * 2 ^ s.vars := Nat.mul_le_mul_right _ (by omega)
          show _ ≤ _; omega
        have HB : Hid (s'.budget = s.budget) := hM.budget
        rcases hor with ⟨rfl, hd⟩ | ⟨rfl, rfl, hfull⟩
        · have HD : Hid (∀ env, Dd.den s2.ns env r2 = (l.take (k + 1)).all (Dd.den s.ns env)) := by
            intro env
            rw [hd env]
            show (if Dd.den s'.ns env r then Dd.den s'.ns env x else Dd.den s'.ns env 0) = _
            rw [hsem env, HA env, Dd.den_zero, hM.den h hS env hx]
            cases (l.take k).all (Dd.den s.ns env) <;> simp
          clear hd hsem HA hc2 hcn
          go_wp2_with fail
          go_roundw
          case rel => exact ⟨k + 1, r2, s2, by omega, by go_num, rfl, rfl, hS2, HM, HF, hr2, HC.out, HD.out⟩
          case measure => simp [intOf]; omega
        · have HFU : Hid (s2.ns.length = s'.budget) := hfull
          clear hfull hsem HA hc2 hcn
          go_wp2_with fail
          go_ret2
          exact ⟨0, 18, s2, rfl, hS2, HM, HF, by omega, HC2.out, Or.inr ⟨rfl, rfl, HFU.out.trans HB.out⟩⟩
      · have hke : k = l.length := by omega
        subst hke
        rw [List.take_length] at hsem
        have HS : Hid (∀ env, Dd.den s'.ns env r = l.all (Dd.den s.ns env)) := hsem
        clear hsem
        go_wp2_with fail
        go_ret2
        exact ⟨r, 0, s', rfl, hS, hM, hF, hr, hcn, Or.inl ⟨rfl, HS.out⟩⟩
set_option maxHeartbeats 1000000 in
theorem Or_any (w : World) (s : St) (h : StoreAt w s) (v : Value) (l : List Nat) (hl : SlFns w s v l) (hok : ∀ f ∈ l, f < s.ns.length) :
    Calls Try.prog 19 #[.pointer (some ⟨s.sb, 0, none⟩), v] w (FnPost (l.length * 2 ^ s.vars) (fun env => l.any (Dd.den s.ns env)) w s) := by
  have two := h.wf.two
  have HOK : Hid (okIn s.ns.length (l.map Int.ofNat) = true) := okIn_nat hok
  have hI := hl.ints
  rcases hl with ⟨rfl, rfl⟩ | ⟨b, o, c, rfl, hm, hlt, hnb, hc⟩
  · go_enter Try.func19, Try.ntmps19
    go_wp2_with fail
    refine (are_any w s h _ _ hI).mono ?_
    rintro e w1 ⟨rfl, rfl⟩
    rw [HOK.out]
    go_wp2_with fail
    go_loop [6, 7, 9, 16] (fun a e _ i => a = .int .i64 0 ∧ e = .int .i64 0 ∧ i = .int .i64 0) (fun _ _ _ _ => 0)
    case atStart => exact ⟨rfl, rfl, rfl⟩
    case round =>
      obtain ⟨rfl, rfl, rfl⟩ := hrel
      go_wp2_with fail
      go_ret2
      exact ⟨0, 0, s, rfl, h, More.refl _ _, Fr.refl _ _, by omega, by omega, Or.inl ⟨rfl, fun env => by simp [Dd.den_zero]⟩⟩
  · go_enter Try.func19, Try.ntmps19
    go_wp2_with fail
    refine (are_any w s h _ _ hI).mono ?_
    rintro e w1 ⟨rfl, rfl⟩
    rw [HOK.out]
    go_wp2_with fail
    go_loopw [6, 7, 9, 16] (fun a e _ i wr => ∃ (k r : Nat) (s' : St), k ≤ l.length ∧ i = .int .i64 k ∧ a = .int .i64 r ∧ e = .int .i64 0 ∧ StoreAt wr s' ∧ More w1 s s' ∧ Fr s.bl w1 wr ∧ r < s'.ns.length ∧ s'.ns.length ≤ s.ns.length + k * 2 ^ s.vars ∧
        ∀ env, Dd.den s'.ns env r = (l.take k).any (Dd.den s.ns env)) (fun _ _ _ i _ => l.length - (intOf i).toNat)
    case atStart => exact ⟨0, 0, s, Nat.zero_le _, rfl, rfl, rfl, h, More.refl _ _, Fr.refl _ _, by omega, by omega, fun env => by simp [Dd.den_zero]⟩
    case round =>
      obtain ⟨k, r, s', hk, rfl, rfl, rfl, hS, hM, hF, hr, hcn, hsem⟩ := hrel
      by_cases hlt' : k < l.length
      · have hck := (hF.cell (p := ⟨b, o + k, none⟩) hlt hnb).trans (hc k hlt')
        have hx := hok (l.getD k 0) (by simp [List.getD, hlt'])
        have HA := fun env => any_take (Dd.den s.ns env) l k hlt'
        obtain ⟨x, hxe⟩ : ∃ x, x = l.getD k 0 := ⟨_, rfl⟩
        rw [← hxe] at hck hx HA
        have HX : Hid (x = l.getD k 0) := hxe
        have hMl := hM.len
        clear hc hxe
        go_wp2_with fail
        have HH := ite_fn wr s' hS r 1 x hr (by omega) (by omega)
        rw [hM.sb] at HH
        refine HH.mono ?_
        clear HH
        rintro e w2 ⟨r2, er, s2, rfl, hS2, hM2, hF2, hr2, hc2, hor⟩
        rw [hM.vars] at hc2
        have HM := hM.trans hM2 hF.size
        have HF := hF.trans hF2 (fun i hi q => hM.bl i hi q)
        have HC : Hid (s2.ns.length ≤ s.ns.length + (k + 1) * 2 ^ s.vars) := by show _ ≤ _; rw [Nat.succ_mul]; omega
        have HC2 : Hid (s2.ns.length ≤ s.ns.length + l.length * 2 ^ s.vars) := by
          have h1 := HC.out
          have h2 : (k + 1) * 2 ^ s.vars ≤ l.length * 2 ^ s.vars := Nat.mul_le_mul_right _ (by omega)
          show _ ≤ _; omega
        have HB : Hid (s'.budget = s.budget) := hM.budget
        rcases hor with ⟨rfl, hd⟩ | ⟨rfl, rfl, hfull⟩
        · have HD : Hid (∀ env, Dd.den s2.ns env r2 = (l.take (k + 1)).any (Dd.den s.ns env)) := by
            intro env
            rw [hd env]
            show (if Dd.den s'.ns env r then Dd.den s'.ns env 1 else Dd.den s'.ns env x) = _
            rw [hsem env, HA env, Dd.den_one, hM.den h hS env hx]
            cases (l.take k).any (Dd.den s.ns env) <;> simp
          clear hd hsem HA hc2 hcn
          go_wp2_with fail
          go_roundw
          case rel => exact ⟨k + 1, r2, s2, by omega, by go_num, rfl, rfl, hS2, HM, HF, hr2, HC.out, HD.out⟩
          case measure => simp [intOf]; omega
        · have HFU : Hid (s2.ns.length = s'.budget) := hfull
          clear hfull hsem HA hc2 hcn
          go_wp2_with fail
          go_ret2
          exact ⟨0, 18, s2, rfl, hS2, HM, HF, by omega, HC2.out, Or.inr ⟨rfl, rfl, HFU.out.trans HB.out⟩⟩
      · have hke : k = l.length := by omega
        subst hke
        rw [List.take_length] at hsem
        have HS : Hid (∀ env, Dd.den s'.ns env r = l.any (Dd.den s.ns env)) := hsem
        clear hsem
        go_wp2_with fail
        go_ret2
        exact ⟨r, 0, s', rfl, hS, hM, hF, hr, hcn, Or.inl ⟨rfl, HS.out⟩⟩

set_option maxHeartbeats 400000 in
theorem And_bad (w : World) (s : St) (h : StoreAt w s) (v : Value) (l : List Int) (hl : SlInts w v l) (hok : okIn s.ns.length l = false) :
    Calls Try.prog 18 #[.pointer (some ⟨s.sb, 0, none⟩), v] w fun e w' => e = .returned (.tuple #[.int .i64 0, .int .i64 1]) ∧ w' = w := by
  go_enter Try.func18, Try.ntmps18
  go_wp2_with fail
  refine (are_any w s h _ _ hl).mono ?_
  rintro e w1 ⟨rfl, rfl⟩
  rw [hok]
  go_wp2_with fail
  go_ret2
  exact ⟨rfl, rfl⟩

set_option maxHeartbeats 400000 in
theorem And_nil (w : World) (v : Value) (x : Int) (l : List Int) (hl : SlInts w v (x :: l)) :
    Calls Try.prog 18 #[.pointer none, v] w fun e w' => e = .returned (.tuple #[.int .i64 0, .int .i64 1]) ∧ w' = w := by
  go_enter Try.func18, Try.ntmps18
  go_wp2_with fail
  refine (are_nil w _ x l hl).mono ?_
  rintro e w1 ⟨rfl, rfl⟩
  go_wp2_with fail
  go_ret2
  exact ⟨rfl, rfl⟩

set_option maxHeartbeats 400000 in
theorem Or_bad (w : World) (s : St) (h : StoreAt w s) (v : Value) (l : List Int) (hl : SlInts w v l) (hok : okIn s.ns.length l = false) :
    Calls Try.prog 19 #[.pointer (some ⟨s.sb, 0, none⟩), v] w fun e w' => e = .returned (.tuple #[.int .i64 0, .int .i64 1]) ∧ w' = w := by
  go_enter Try.func19, Try.ntmps19
  go_wp2_with fail
  refine (are_any w s h _ _ hl).mono ?_
  rintro e w1 ⟨rfl, rfl⟩
  rw [hok]
  go_wp2_with fail
  go_ret2
  exact ⟨rfl, rfl⟩

set_option maxHeartbeats 400000 in
theorem Or_nil (w : World) (v : Value) (x : Int) (l : List Int) (hl : SlInts w v (x :: l)) :
    Calls Try.prog 19 #[.pointer none, v] w fun e w' => e = .returned (.tuple #[.int .i64 0, .int .i64 1]) ∧ w' = w := by
  go_enter Try.func19, Try.ntmps19
  go_wp2_with fail
  refine (are_nil w _ x l hl).mono ?_
  rintro e w1 ⟨rfl, rfl⟩
  go_wp2_with fail
  go_ret2
  exact ⟨rfl, rfl⟩
end Go.Proofs.Ytehknmcoccikhaa
