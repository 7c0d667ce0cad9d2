/- Walks: Value, Size, Const, New. -/
import Derived.Test.YtehknmcoccikhaaWe
namespace Go.Proofs.Ytehknmcoccikhaa
open Go.RowKit

set_option maxHeartbeats 400000 in
theorem Size_any (w : World) (s : St) (h : StoreAt w s) :
    Calls Try.prog 12 #[.pointer (some ⟨s.sb, 0, none⟩)] w fun e w' => e = .returned (.int .i64 s.ns.length) ∧ w' = w := by
  have c2 := h.c2
  go_enter Try.func12, Try.ntmps12
  go_wp2_with fail
  go_ret
  exact ⟨rfl, rfl⟩

set_option maxHeartbeats 400000 in
theorem ConstS_any (w : World) (a : Addr) (b : Bool) :
    Calls Try.prog 24 #[.pointer (some a), .bool b] w fun e w' => e = .returned (.int .i64 (if b then 1 else 0)) ∧ w' = w := by
  cases b
  · go_enter Try.func24, Try.ntmps24
    go_wp2_with fail
    go_ret
    exact ⟨rfl, rfl⟩
  · go_enter Try.func24, Try.ntmps24
    go_wp2_with fail
    go_ret
    exact ⟨rfl, rfl⟩

set_option maxHeartbeats 400000 in
theorem New_bad (w : World) (v b : Int) (hbad : v < 0 ∨ 30 < v ∨ b < 2 ∨ 10000 < b) :
    Calls Try.prog 9 #[.int .i64 v, .int .i64 b] w fun e w' => e = .returned (.tuple #[.pointer none, .int .i64 1]) ∧ w' = w := by
  by_cases h1 : v < 0
  · go_enter Try.func9, Try.ntmps9
    go_wp2_with fail
    go_ret2
    exact ⟨rfl, rfl⟩
  · by_cases h2 : 30 < v
    · go_enter Try.func9, Try.ntmps9
      go_wp2_with fail
      go_ret2
      exact ⟨rfl, rfl⟩
    · by_cases h3 : b < 2
      · go_enter Try.func9, Try.ntmps9
        go_wp2_with fail
        go_ret2
        exact ⟨rfl, rfl⟩
      · have h4 : 10000 < b := by omega
        go_enter Try.func9, Try.ntmps9
        go_wp2_with fail
        go_ret2
        exact ⟨rfl, rfl⟩

theorem heap_alloc_at (w : World) (o : Obj) (k : Nat) : (w.alloc o).heap[k]? = if k = w.heap.size then some o else w.heap[k]? := by
  show (w.heap.push o)[k]? = _
  rw [Array.getElem?_push]

theorem store_new (w : World) (v b : Nat) (hv : v ≤ 30) (hb : 2 ≤ b) (hb2 : b ≤ 10000) :
    StoreAt ((((w.alloc (.cells #[.int .i64 v, .int .i64 0, .int .i64 0, .int .i64 v, .int .i64 1, .int .i64 1] 59)).alloc (.map #[] 0)).alloc (.map #[] 0)).alloc
      (.cells #[.int .i64 v, .int .i64 b, .slice (some ⟨w.heap.size, 0, none⟩) 2 2, .map (some (w.heap.size + 1)), .map (some (w.heap.size + 1 + 1))] 64))
      ⟨w.heap.size + 1 + 1 + 1, w.heap.size, w.heap.size + 1, w.heap.size + 1 + 1, v, b, 2, [(v, 0, 0), (v, 1, 1)], []⟩ := by
  have z : ∀ (x : World) (o : Obj), (x.alloc o).heap.size = x.heap.size + 1 := fun x o => by show (x.heap.push o).size = _; simp
  refine ⟨?_, ⟨by simp [flat], Or.inr ⟨w.heap.size, 2, #[.int .i64 v, .int .i64 0, .int .i64 0, .int .i64 v, .int .i64 1, .int .i64 1], rfl, Nat.zero_le _, ?_, Nat.le_refl _, by unfold maxLen; omega, ?_, ?_⟩⟩, ⟨#[], 0, ?_, rfl⟩, ⟨#[], 0, ?_, rfl⟩, ?_, Dd.WF_new v, hv, by simpa using hb, hb2, by simp⟩
  · simp only [heap_alloc_at, z]; simp
  · simp only [heap_alloc_at, z]; rw [if_neg (by omega), if_neg (by omega), if_neg (by omega), if_pos True.intro]
  · rfl
  · rfl
  · simp only [heap_alloc_at, z]; simp
  · simp only [heap_alloc_at, z]; simp
  · simp; omega

set_option maxHeartbeats 400000 in
theorem New_ok (w : World) (v b : Nat) (hv : v ≤ 30) (hb : 2 ≤ b) (hb2 : b ≤ 10000) :
    Calls Try.prog 9 #[.int .i64 v, .int .i64 b] w fun e w' => ∃ s : St, e = .returned (.tuple #[.pointer (some ⟨s.sb, 0, none⟩), .int .i64 0]) ∧ StoreAt w' s ∧ s.vars = v ∧ s.budget = b ∧ s.ns = [(v, 0, 0), (v, 1, 1)] ∧ Below w.heap.size w w' ∧ (∀ k, s.bl k → w.heap.size ≤ k) := by
  have hmm := @run_makeMap Try.prog
  go_enter Try.func9, Try.ntmps9
  go_wp2_with fail
  go_ret2
  exact ⟨⟨w.heap.size + 1 + 1 + 1, w.heap.size, w.heap.size + 1, w.heap.size + 1 + 1, v, b, 2, [(v, 0, 0), (v, 1, 1)], []⟩, rfl, store_new w v b hv hb hb2, rfl, rfl, rfl,
    ((((Below.refl _ _).alloc (Nat.le_refl _) _).alloc (by simp) _).alloc (by simp; omega) _).alloc (by simp; omega) _, fun k hk => by rcases hk with rfl | rfl | rfl | rfl <;> simp <;> omega⟩

/-- A slice of bools that can be read, apart from a store. -/
def SlBools (w : World) (v : Value) (l : List Bool) : Prop :=
  (v = .slice none 0 0 ∧ l = []) ∨ ∃ b o c, v = .slice (some ⟨b, o, none⟩) l.length c ∧ b < w.heap.size ∧ ∀ i, i < l.length → w.cell? ⟨b, o + i, none⟩ = some (.bool (l.getD i false))

theorem SlBools.below {w w' : World} {v : Value} {l : List Bool} (h : SlBools w v l) (hb : Below w.heap.size w w') : SlBools w' v l := by
  rcases h with h | ⟨b, o, c, rfl, hl, hc⟩
  · exact Or.inl h
  · exact Or.inr ⟨b, o, c, rfl, Nat.lt_of_lt_of_le hl hb.size, fun i hi => (hb.cell hl).trans (hc i hi)⟩

def envOf (l : List Bool) : Nat → Bool := fun i => l.getD i false

set_option maxHeartbeats 1000000 in
theorem Value_any (w : World) (s : St) (h : StoreAt w s) (f : Nat) (hf : f < s.ns.length) (v : Value) (l : List Bool) (hl : SlBools w v l) (hlen : l.length = s.vars) :
    Calls Try.prog 14 #[.pointer (some ⟨s.sb, 0, none⟩), .int .i64 f, v] w fun e w' => e = .returned (.tuple #[.bool (Dd.den s.ns (envOf l) f), .int .i64 0]) ∧ Below w.heap.size w w' := by
  have hok : okIn s.ns.length [(f : Int)] = true := okIn_nat (l := [f]) (by simpa using hf)
  have hB : Below w.heap.size w (w.alloc (.cells #[.int .i64 f] 3)) := (Below.refl _ _).alloc (Nat.le_refl _) _
  obtain ⟨a, n, c, rfl, hn⟩ : ∃ a n c, v = .slice a n c ∧ n = l.length := by
    rcases hl with ⟨rfl, rfl⟩ | ⟨b, o, c, rfl, _⟩
    · exact ⟨_, _, _, rfl, rfl⟩
    · exact ⟨_, _, _, rfl, rfl⟩
  have hne : ((n : Int) != (s.vars : Int)) = false := by simp; omega
  go_enter Try.func14, Try.ntmps14
  go_wp2_with fail
  refine (are_any _ s (h.below hB) _ [(f : Int)] (SlInts.new1 w f)).mono ?_
  rintro e w1 ⟨rfl, hw1⟩
  rw [hok]
  have hS1 : StoreAt w1 s := by rw [hw1]; exact h.below hB
  have hl1 : SlBools w1 (.slice a n c) l := by rw [hw1]; exact hl.below hB
  have hB1 : Below w.heap.size w w1 := by rw [hw1]; exact hB
  have c0 := hS1.c0
  have HN : Hid (n = l.length) := hn
  clear hw1 hB hok hn
  go_wp2_with fail
  clear hne
  go_loopw [1] (fun x wr => ∃ f' : Nat, x = .int .i64 f' ∧ f' < s.ns.length ∧ Below w.heap.size w wr ∧ StoreAt wr s ∧ SlBools wr (.slice a n c) l ∧ Dd.den s.ns (envOf l) f' = Dd.den s.ns (envOf l) f) (fun x _ => (intOf x).toNat)
  case atStart => exact ⟨f, rfl, hf, hB1, hS1, hl1, rfl⟩
  case round =>
    obtain ⟨f', rfl, hf', hBr, hSr, hlr, hden⟩ := hrel
    have hlenr := hSr.len
    clear c0 hl1 hS1
    by_cases h2 : 2 ≤ f'
    · obtain ⟨_, hL, hH, hT, _⟩ := h.wf.nd f' h2 hf'
      have hst := Dd.den_step h.wf (envOf l) h2 hf'
      obtain ⟨b, o, ha, hc⟩ : ∃ b o, a = some ⟨b, o, none⟩ ∧ ∀ i, i < l.length → wr.cell? ⟨b, o + i, none⟩ = some (.bool (l.getD i false)) := by
        rcases hlr with ⟨_, rfl⟩ | ⟨b, o, c', he, _, hc⟩
        · simp at hlen; omega
        · simp at he; exact ⟨b, o, he.1, hc⟩
      have hct := hc (Dd.T s.ns f') (by omega)
      have hTn : Dd.T s.ns f' < n := by have := HN.out; omega
      subst ha
      have c2 := hSr.c2
      have n0 := hSr.n0 hf'
      obtain ⟨x, hx⟩ : ∃ x, x = l.getD (Dd.T s.ns f') false := ⟨_, rfl⟩
      rw [← hx] at hct
      have HX : Hid (x = l.getD (Dd.T s.ns f') false) := hx
      have HST : Hid (Dd.den s.ns (envOf l) f' = if envOf l (Dd.T s.ns f') = true then Dd.den s.ns (envOf l) (Dd.H s.ns f') else Dd.den s.ns (envOf l) (Dd.L s.ns f')) := hst
      have HD : Hid (Dd.den s.ns (envOf l) f' = Dd.den s.ns (envOf l) f) := hden
      clear hx hst hden hc
      go_wp2_with fail
      go_still_tail 21, (by kernel_rfl)
      go_wp2_with fail
      have hBd : Below wr.heap.size wr wr.drew := (Below.refl _ _).drew
      refine (half_any wr.drew s (hSr.below hBd) f' (Dd.T s.ns f') x hf').mono ?_
      rintro e w2 ⟨rfl, hb2⟩
      have hb3 : Below wr.heap.size wr w2 := hBd.trans hb2
      have HS2 := hSr.below hb3
      have HL2 := hlr.below hb3
      have HB2 := hBr.trans (hb3.mono hBr.size)
      have HH : Hid (Dd.half s.ns f' (Dd.T s.ns f') x < f' ∧ Dd.half s.ns f' (Dd.T s.ns f') x < s.ns.length ∧ Dd.den s.ns (envOf l) (Dd.half s.ns f' (Dd.T s.ns f') x) = Dd.den s.ns (envOf l) f) := by
        have hx := HX.out
        refine ⟨?_, Dd.half_lt h.wf hf', ?_⟩
        · unfold Dd.half; simp only [ne_eq, not_true_eq_false, if_false]; split <;> omega
        · rw [← HD.out, HST.out]
          unfold Dd.half envOf
          simp only [ne_eq, not_true_eq_false, if_false]
          rw [hx]; split <;> rfl
      clear hb2 hb3 hBd
      go_wp2_with fail
      go_roundw
      case rel => exact ⟨_, rfl, HH.out.2.1, HB2, HS2, HL2, HH.out.2.2⟩
      case measure => have := HH.out.1; simp [intOf]; omega
    · have HD : Hid (Dd.den s.ns (envOf l) f' = Dd.den s.ns (envOf l) f) := hden
      have hfe : f' = 0 ∨ f' = 1 := by omega
      clear hden
      rcases hfe with rfl | rfl
      · rw [Dd.den_zero] at HD
        go_wp2_with fail
        go_ret2
        exact ⟨by rw [← HD.out]; rfl, hBr⟩
      · rw [Dd.den_one] at HD
        go_wp2_with fail
        go_ret2
        exact ⟨by rw [← HD.out]; rfl, hBr⟩
end Go.Proofs.Ytehknmcoccikhaa
