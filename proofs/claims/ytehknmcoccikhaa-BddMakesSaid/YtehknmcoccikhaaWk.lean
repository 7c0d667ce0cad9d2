/- Walks: Restrict. -/
import Derived.Test.YtehknmcoccikhaaWj
namespace Go.Proofs.Ytehknmcoccikhaa
open Go.RowKit

/-- The three variables that a Restrict boxes. -/
theorem boxes3 (w : World) (o1 o2 o3 : Obj) : ∃ W, W = ((w.alloc o1).alloc o2).alloc o3 ∧ W.heap[w.heap.size]? = some o1 ∧ W.heap[w.heap.size + 1]? = some o2 ∧ W.heap[w.heap.size + 2]? = some o3 ∧ W.heap.size = w.heap.size + 3 ∧ Below w.heap.size w W := by
  have z : ∀ (x : World) (o : Obj), (x.alloc o).heap.size = x.heap.size + 1 := fun x o => by show (x.heap.push o).size = _; simp
  refine ⟨_, rfl, ?_, ?_, ?_, ?_, ?_⟩
  · simp only [heap_alloc_at, z]; rw [if_neg (by omega), if_neg (by omega), if_pos True.intro]
  · simp only [heap_alloc_at, z]; simp
  · simp only [heap_alloc_at, z]; simp
  · simp only [z]
  · exact (((Below.refl _ _).alloc (Nat.le_refl _) _).alloc (by rw [z]; omega) _).alloc (by rw [z, z]; omega) _

set_option maxHeartbeats 1000000 in
theorem Restrict_any (w : World) (s : St) (h : StoreAt w s) (f i : Nat) (b : Bool) (hf : f < s.ns.length) (hi : i < s.vars) :
    Calls Try.prog 20 #[.pointer (some ⟨s.sb, 0, none⟩), .int .i64 f, .int .i64 i, .bool b] w (FnPost (2 ^ s.vars) (fun env => Dd.den s.ns (Dd.upd env i b) f) w s) := by
  have hok : okIn s.ns.length [(f : Int)] = true := okIn_nat (l := [f]) (by simpa using hf)
  obtain ⟨W, hW, b1, b2, b3, hsz, hBW⟩ := boxes3 w (.cells #[.pointer (some ⟨s.sb, 0, none⟩)] 24) (.cells #[.int .i64 i] 3) (.cells #[.bool b] 4)
  have hmm := @run_makeMap Try.prog
  go_enter Try.func20, Try.ntmps20
  go_wp2_with fail
  rw [← hW]
  have hS := h.below hBW
  have p1 := cell_of_one b1
  have i1 := cell_of_one b2
  have c0 := hS.c0
  have lp : w.heap.size < W.heap.size := by omega
  have li : w.heap.size + 1 < W.heap.size := by omega
  have ls : s.sb < W.heap.size := hS.lt (Or.inl rfl)
  have HSZ : Hid (W.heap.size = w.heap.size + 3) := hsz
  clear hW hsz
  go_region_held3 (fun w' => w'.cell? ⟨w.heap.size, 0, none⟩ = some (.pointer (some ⟨s.sb, 0, none⟩)) ∧ w'.cell? ⟨w.heap.size + 1, 0, none⟩ = some (.int .i64 i) ∧ w'.cell? ⟨s.sb, 0, none⟩ = some (.int .i64 s.vars))
    (go_keep)
    (first | (go_at_call 32; refine (are_any (W.alloc (.cells #[.int .i64 f] 3)).drew s ((hS.below ((Below.refl _ _).alloc (Nat.le_refl _) _)).below (Below.refl _ _).drew) _ [(f : Int)] (SlInts.new1 W f)).mono ?_; rw [hok]; rintro e w2 ⟨rfl, rfl⟩))
  have hB1 : Below w.heap.size w (W.alloc (.cells #[.int .i64 f] 3)).drew := (hBW.alloc hBW.size _).drew
  have hb1 : (W.alloc (.cells #[.int .i64 f] 3)).drew.heap[w.heap.size]? = _ := (Below.heap_alloc W _ _ lp).trans b1
  have hb2 : (W.alloc (.cells #[.int .i64 f] 3)).drew.heap[w.heap.size + 1]? = _ := (Below.heap_alloc W _ _ li).trans b2
  have hb3 : (W.alloc (.cells #[.int .i64 f] 3)).drew.heap[w.heap.size + 2]? = _ := (Below.heap_alloc W _ _ (by have := HSZ.out; omega)).trans b3
  generalize (W.alloc (.cells #[.int .i64 f] 3)).drew = W1 at hB1 hb1 hb2 hb3 ⊢
  clear b1 b2 b3 p1 i1 c0 lp li ls hS hBW HSZ
  go_wp2_with fail
  have z : ∀ (x : World) (o : Obj), (x.alloc o).heap.size = x.heap.size + 1 := fun x o => by show (x.heap.push o).size = _; simp
  have hS1 := h.below hB1
  have hnb : ∀ {k : Nat}, w.heap.size ≤ k → ¬ s.bl k := fun hk => bl_new h hk
  have hsz1 := hB1.size
  have hl1 : w.heap.size + 2 < W1.heap.size := (Array.getElem?_eq_some_iff.1 hb3).1
  have hB2 : Below W1.heap.size W1 (((W1.alloc (.map #[] 0)).alloc (.cells #[.map (some W1.heap.size)] 76)).alloc (.cells #[.func (.func 36) #[] #[.pointer (some ⟨w.heap.size, 0, none⟩), .pointer (some ⟨W1.heap.size + 1, 0, none⟩), .pointer (some ⟨w.heap.size + 1, 0, none⟩), .pointer (some ⟨w.heap.size + 1 + 1, 0, none⟩), .pointer (some ⟨W1.heap.size + 1 + 1, 0, none⟩)]] 46)) :=
    (((Below.refl _ _).alloc (Nat.le_refl _) _).alloc (by rw [z]; omega) _).alloc (by rw [z, z]; omega) _
  have CC : CloR (((W1.alloc (.map #[] 0)).alloc (.cells #[.map (some W1.heap.size)] 76)).alloc (.cells #[.func (.func 36) #[] #[.pointer (some ⟨w.heap.size, 0, none⟩), .pointer (some ⟨W1.heap.size + 1, 0, none⟩), .pointer (some ⟨w.heap.size + 1, 0, none⟩), .pointer (some ⟨w.heap.size + 1 + 1, 0, none⟩), .pointer (some ⟨W1.heap.size + 1 + 1, 0, none⟩)]] 46))
      s w.heap.size (W1.heap.size + 1) (w.heap.size + 1) (w.heap.size + 1 + 1) (W1.heap.size + 1 + 1) W1.heap.size [] i b := by
    refine ⟨hS1.below hB2, ⟨(hB2.block _ (by omega)).trans hb1, hnb (by omega)⟩, ⟨?_, hnb (by omega)⟩, ⟨(hB2.block _ (by omega)).trans hb2, hnb (by omega)⟩, ⟨(hB2.block _ (by omega)).trans hb3, hnb (by omega)⟩, ⟨?_, hnb (by omega)⟩, ⟨#[], 0, ?_, rfl⟩, hnb (by omega), hi, by intro x n hx; simp [look] at hx⟩
    · simp only [heap_alloc_at, z]; rw [if_neg (by omega), if_pos True.intro]
    · simp only [heap_alloc_at, z]; simp
    · simp only [heap_alloc_at, z]; rw [if_neg (by omega), if_neg (by omega), if_pos True.intro]
  have hB3 := hB1.trans (hB2.mono hsz1)
  refine (down_any _ _ _ _ _ _ i b (f + 1) f _ s [] (by omega) CC hf).mono ?_
  rintro e w2 ⟨r, er, s', rfl, hS', hM', hF', hr', hcn', hor⟩
  have hMM : More w s s' := (More.refl w s).trans hM' hB3.size
  have hFF : Fr s.bl w w2 := (Fr.of_below hB3 s.bl).trans hF' (fun k hk q => by rcases q with q | q; exact q; omega)
  have HC : Hid (s'.ns.length ≤ s.ns.length + 2 ^ s.vars) := by
    have h1 : 2 ^ (s.vars - Dd.T s.ns f) ≤ 2 ^ s.vars := Nat.pow_le_pow_right (by omega) (by omega)
    show _ ≤ _; omega
  have HOR : Hid ((er = 0 ∧ ∀ env, Dd.den s'.ns env r = Dd.den s.ns (Dd.upd env i b) f) ∨ (er = 18 ∧ r = 0 ∧ s'.ns.length = s.budget)) := hor.imp (fun q => ⟨q.1, q.2.2.2⟩) id
  clear hor hcn'
  go_wp2_with fail
  go_ret2
  exact ⟨r, er, s', rfl, hS', hMM, hFF, hr', HC.out, HOR.out⟩

set_option maxHeartbeats 1000000 in
theorem Restrict_bad (w : World) (s : St) (h : StoreAt w s) (f i : Int) (b : Bool) (hok : okIn s.ns.length [f] = false) :
    Calls Try.prog 20 #[.pointer (some ⟨s.sb, 0, none⟩), .int .i64 f, .int .i64 i, .bool b] w fun e w' => e = .returned (.tuple #[.int .i64 0, .int .i64 1]) ∧ Below w.heap.size w w' := by
  obtain ⟨W, hW, b1, b2, b3, hsz, hBW⟩ := boxes3 w (.cells #[.pointer (some ⟨s.sb, 0, none⟩)] 24) (.cells #[.int .i64 i] 3) (.cells #[.bool b] 4)
  go_enter Try.func20, Try.ntmps20
  go_wp2_with fail
  rw [← hW]
  have hS := h.below hBW
  have p1 := cell_of_one b1
  have lp : w.heap.size < W.heap.size := by omega
  clear hW hsz
  go_region_with ((go_at_call 32; refine (are_any (W.alloc (.cells #[.int .i64 f] 3)).drew s ((hS.below ((Below.refl _ _).alloc (Nat.le_refl _) _)).below (Below.refl _ _).drew) _ [f] (SlInts.new1 W f)).mono ?_; rw [hok]; rintro e w2 ⟨rfl, rfl⟩))
  all_goals
    go_wp2_with fail
    go_ret2
    exact ⟨rfl, (hBW.alloc hBW.size _).drew⟩

set_option maxHeartbeats 1000000 in
theorem Restrict_nil (w : World) (f i : Int) (b : Bool) :
    Calls Try.prog 20 #[.pointer none, .int .i64 f, .int .i64 i, .bool b] w fun e w' => e = .returned (.tuple #[.int .i64 0, .int .i64 1]) ∧ Below w.heap.size w w' := by
  obtain ⟨W, hW, b1, b2, b3, hsz, hBW⟩ := boxes3 w (.cells #[.pointer none] 24) (.cells #[.int .i64 i] 3) (.cells #[.bool b] 4)
  go_enter Try.func20, Try.ntmps20
  go_wp2_with fail
  rw [← hW]
  have p1 := cell_of_one b1
  have lp : w.heap.size < W.heap.size := by omega
  clear hW hsz
  go_region_with ((go_at_call 32; refine (are_nil (W.alloc (.cells #[.int .i64 f] 3)).drew _ f [] (SlInts.new1 W f)).mono ?_; rintro e w2 ⟨rfl, rfl⟩))
  all_goals
    go_wp2_with fail
    go_ret2
    exact ⟨rfl, (hBW.alloc hBW.size _).drew⟩
end Go.Proofs.Ytehknmcoccikhaa
