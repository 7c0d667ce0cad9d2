/- Walks: half, are. -/
import Derived.Test.YtehknmcoccikhaaStore
import Derived.BigQuiet
import Derived.Deep.QuietTactic
namespace Go.Proofs.Ytehknmcoccikhaa
open Go.RowKit

set_option maxHeartbeats 400000 in
theorem half_any (w : World) (s : St) (h : StoreAt w s) (f t : Nat) (b : Bool) (hf : f < s.ns.length) :
    Calls Try.prog 33 #[.pointer (some ⟨s.sb, 0, none⟩), .int .i64 f, .int .i64 t, .bool b] w fun e w' => e = .returned (.int .i64 (Dd.half s.ns f t b)) ∧ Below w.heap.size w w' := by
  have hlen := h.len
  have c2 := h.c2
  have n0 := h.n0 hf
  have n1 := h.n1 hf
  have n2 := h.n2 hf
  by_cases e : Dd.T s.ns f = t
  · cases b
    · go_enter Try.func33, Try.ntmps33
      go_wp2
      go_ret
      exact ⟨by simp [Dd.half, e], (Below.refl _ _).alloc (Nat.le_refl _) _⟩
    · go_enter Try.func33, Try.ntmps33
      go_wp2
      go_ret
      exact ⟨by simp [Dd.half, e], (Below.refl _ _).alloc (Nat.le_refl _) _⟩
  · have e' : ((Dd.T s.ns f : Int) == (t : Int)) = false := by simp; omega
    go_enter Try.func33, Try.ntmps33
    go_wp2
    go_ret
    exact ⟨by simp [Dd.half, e], (Below.refl _ _).alloc (Nat.le_refl _) _⟩

/-- A slice of ints that can be read. -/
def SlInts (w : World) (v : Value) (l : List Int) : Prop :=
  (v = .slice none 0 0 ∧ l = []) ∨ ∃ b o c, v = .slice (some ⟨b, o, none⟩) l.length c ∧ l.length ≤ 1000 ∧ ∀ i, i < l.length → w.cell? ⟨b, o + i, none⟩ = some (.int .i64 (l.getD i 0))

def okIn (n : Nat) (l : List Int) : Bool := l.all fun f => decide (0 ≤ f ∧ f < n)
theorem okIn_take (n : Nat) (l : List Int) (k : Nat) (hk : k < l.length) (h : okIn n (l.take k) = true) : okIn n (l.take (k + 1)) = decide (0 ≤ l.getD k 0 ∧ l.getD k 0 < n) := by
  unfold okIn at *
  rw [List.take_succ_eq_append_getElem hk, List.all_append, h]
  simp [List.getD, hk]
theorem okIn_no (n : Nat) (l : List Int) (k : Nat) (h : okIn n (l.take k) = false) : okIn n l = false := by
  unfold okIn at *
  rw [List.all_eq_false] at *
  obtain ⟨x, hx, hn⟩ := h
  exact ⟨x, List.mem_of_mem_take hx, hn⟩

set_option maxHeartbeats 400000 in
theorem are_any (w : World) (s : St) (h : StoreAt w s) (v : Value) (l : List Int) (hl : SlInts w v l) :
    Calls Try.prog 32 #[.pointer (some ⟨s.sb, 0, none⟩), v] w fun e w' => e = .returned (.bool (okIn s.ns.length l)) ∧ w' = w := by
  have hlen := h.len
  have c2 := h.c2
  rcases hl with ⟨rfl, rfl⟩ | ⟨b, o, c, rfl, hm, hc⟩
  · go_enter Try.func32, Try.ntmps32
    go_wp2
    go_loop [6, 9] (fun _ i => i = .int .i64 0) (fun _ i => 0)
    case atStart => rfl
    case round =>
      subst hrel
      go_wp2
      go_ret
      exact ⟨rfl, rfl⟩
  · go_enter Try.func32, Try.ntmps32
    go_wp2
    go_loop [6, 9] (fun _ i => ∃ k : Nat, k ≤ l.length ∧ i = .int .i64 k ∧ okIn s.ns.length (l.take k) = true) (fun _ i => l.length - (intOf i).toNat)
    case atStart => exact ⟨0, Nat.zero_le _, rfl, rfl⟩
    case round =>
      obtain ⟨k, hk, rfl, hok⟩ := hrel
      by_cases hlt : k < l.length
      · have hck := hc k hlt
        have hnx := okIn_take _ l k hlt hok
        have HN := okIn_no s.ns.length l (k + 1)
        obtain ⟨x, hx⟩ : ∃ x, x = l.getD k 0 := ⟨_, rfl⟩
        rw [← hx] at hck hnx
        have HX : Hid (okIn s.ns.length (l.take (k + 1)) = decide (0 ≤ x ∧ x < s.ns.length)) := hnx
        have HNN : Hid (okIn s.ns.length (l.take (k + 1)) = false → okIn s.ns.length l = false) := HN
        clear hx hnx HN hc hok
        by_cases h0 : x < 0
        · go_wp2
          go_ret
          exact ⟨by rw [HNN.out (by rw [HX.out]; simp; omega)]; rfl, rfl⟩
        · by_cases h1 : x < s.ns.length
          · go_wp2
            go_round
            case rel => exact ⟨k + 1, by omega, by go_num, by rw [HX.out]; simp; omega⟩
            case measure => simp [intOf]; omega
          · go_wp2
            go_ret
            exact ⟨by rw [HNN.out (by rw [HX.out]; simp; omega)]; rfl, rfl⟩
      · have : k = l.length := by omega
        subst this
        rw [List.take_length] at hok
        have HX : Hid (okIn s.ns.length l = true) := hok
        clear hok
        go_wp2
        go_ret
        exact ⟨by rw [HX.out]; rfl, rfl⟩

set_option maxHeartbeats 400000 in
theorem are_nil (w : World) (v : Value) (x : Int) (l : List Int) (hl : SlInts w v (x :: l)) :
    Calls Try.prog 32 #[.pointer none, v] w fun e w' => e = .returned (.bool false) ∧ w' = w := by
  rcases hl with ⟨rfl, h⟩ | ⟨b, o, c, rfl, hm, hc⟩
  · cases h
  · have h0 : w.cell? ⟨b, o, none⟩ = some (.int .i64 x) := by simpa using hc 0 (by simp)
    have hlen : 0 < (x :: l).length := by simp
    clear hc
    obtain ⟨n, hn⟩ : ∃ n, n = (x :: l).length := ⟨_, rfl⟩
    rw [← hn] at hlen ⊢
    clear hn hm
    go_enter Try.func32, Try.ntmps32
    go_wp2
    go_loop [6, 9] (fun _ i => i = .int .i64 0) (fun _ i => 0)
    case atStart => rfl
    case round =>
      subst hrel
      go_wp2
      go_ret
      exact ⟨rfl, rfl⟩

end Go.Proofs.Ytehknmcoccikhaa
