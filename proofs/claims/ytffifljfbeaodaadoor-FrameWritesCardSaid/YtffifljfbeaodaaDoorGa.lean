/- The reference's numbers' texts. -/
import Derived.Test.YtffifljfbeaodaaDoorFp
import Derived.Laws.IdiomStrings
namespace Go.Proofs.YtffifljfbeaodaaDoor
open Go.RowKit Go.Shelf

theorem digit_conv (n : Nat) (w : World) : (convert 47 9 (.slice (some ⟨w.heap.size, 0, none⟩) 1 1)).run Tryd.prog (w.alloc (.cells #[.int .u8 (48 + (n : Int) % 10)] 5)) = .ok (.string ⟨#[Fx.dg (n % 10)]⟩) (w.alloc (.cells #[.int .u8 (48 + (n : Int) % 10)] 5)) := by
  refine run_convert_bytes_back _ _ _ 5 _ 1 [Fx.dg (n % 10)] Tryd.underlying47 Tryd.underlying5 Tryd.underlying9 (fun j hj => ?_)
  have hj0 : j = 0 := by simpa using hj
  subst hj0
  have hb := heap_alloc_new w (.cells #[.int .u8 (48 + (n : Int) % 10)] 5)
  have e : ((Fx.dg (n % 10)).toNat : Int) = 48 + (n : Int) % 10 := by rw [Fx.byte_of (by omega)]; omega
  simp only [List.getElem_cons_zero, e]
  unfold World.cell? Addr.add
  simp only [Nat.add_zero, if_true]
  rw [hb]; rfl
set_option maxRecDepth 100000 in
set_option maxHeartbeats 1000000 in
theorem rDigits_any : ∀ (n : Nat), n < 10000000000 → ∀ w : World, Calls Tryd.prog 42 #[.int .i64 n] w fun e w' => ∃ t : ByteArray, e = .returned (.string t) ∧ t.data.toList = Fx.dec n ∧ Below w.heap.size w w' := by
  intro n
  induction n using Nat.strongRecOn with
  | _ n ih =>
    intro hn w
    have h63 : (n : Int) < 10000000000 := by omega
    have hn0 : (0 : Int) ≤ (n : Int) := by omega
    have hm : (n : Int).tmod 10 = (n : Int) % 10 := Int.tmod_eq_emod_of_nonneg hn0
    obtain ⟨q, hq⟩ : ∃ q : Nat, q = n / 10 := ⟨_, rfl⟩
    have hd : (n : Int).tdiv 10 = (q : Int) := by rw [Int.tdiv_eq_ediv_of_nonneg hn0]; omega
    have hd2 : (n : Int) / 10 = (q : Int) := by omega
    have HQ : Hid (q = n / 10) := hq
    clear hq
    have hcv := digit_conv n w
    have hb : Below w.heap.size w (w.alloc (.cells #[.int .u8 (48 + (n : Int) % 10)] 5)) := (Below.refl _ _).alloc (Nat.le_refl _) _
    by_cases hs : n < 10
    · have hs2 : ¬ (10 : Int) ≤ (n : Int) := by omega
      have HD : Hid (Fx.dec n = [Fx.dg (n % 10)]) := by show _ = _; rw [Fx.dec_small hs, Nat.mod_eq_of_lt hs]
      clear ih
      go_enter Tryd.func42, Tryd.ntmps42
      go_wp2_with fail
      go_ret
      exact ⟨_, rfl, by rw [HD.out], hb⟩
    · have hs2 : (10 : Int) ≤ (n : Int) := by omega
      have HD : Hid (Fx.dec n = Fx.dec q ++ [Fx.dg (n % 10)]) := by show _ = _; rw [HQ.out]; exact Fx.dec_big hs
      have HIH : Hid (∀ w, Calls Tryd.prog 42 #[.int .i64 (q : Int)] w fun e w' => ∃ t : ByteArray, e = .returned (.string t) ∧ t.data.toList = Fx.dec q ∧ t.size ≤ 20 ∧ Below w.heap.size w w') := fun w => by
        refine (ih q (by have := HQ.out; omega) (by have := HQ.out; omega) w).mono ?_
        rintro e w' ⟨t, h1, h2, h3⟩
        have := (Fx.dec_is q).2.2.2.2 9 (by have := HQ.out; omega)
        exact ⟨t, h1, h2, by rw [← list_size, h2]; omega, h3⟩
      clear ih
      go_enter Tryd.func42, Tryd.ntmps42
      go_wp2_with fail
      refine (HIH.out _).mono ?_
      rintro e w2 ⟨t, rfl, ht, hts, hb2⟩
      go_wp2_with fail
      go_ret
      exact ⟨_, rfl, by rw [concat_list, ht, HD.out], below_next hb hb2⟩
end Go.Proofs.YtffifljfbeaodaaDoor
