/- Walks: Count. -/
import Derived.Deep.RegionHeld3
import Derived.Laws.EntriesVeiled
import Derived.Test.YtjnpkdpljmkpiaaGreatDoorJ26
namespace Go.Proofs.YtjnpkdpljmkpiaaGreatDoor
open Go.RowKit
set_option maxRecDepth 20000
def kI (n : Int) : Value := .int .i64 n
structure CloC (w : World) (s : St) (c1 c2 c3 db : Nat) (l : List (Int × Int)) : Prop where
  store : StoreAt w s
  d : w.heap[c1]? = some (.cells #[.map (some db)] 141 (0, 0))
  p : w.heap[c2]? = some (.cells #[.pointer (some ⟨s.sb, 0, none⟩)] 43 (0, 0))
  f : w.heap[c3]? = some (.cells #[.func (.func 81) #[] #[.pointer (some ⟨c1, 0, none⟩), .pointer (some ⟨c2, 0, none⟩), .pointer (some ⟨c3, 0, none⟩)]] 142 (0, 0))
  map : MapIs kI kI w db l
  apart : ¬ s.bl db
  good : ∀ x n, look x l = some n → ∃ f : Nat, x = f ∧ f < s.ns.length ∧ n = (Dd.cnt s.vars s.ns (Dd.T s.ns f) f : Nat)
  zero : look 0 l = some 0
  one : look 1 l = some 1
theorem CloC.db_ne {w : World} {s : St} {c1 c2 c3 db : Nat} {l : List (Int × Int)} (h : CloC w s c1 c2 c3 db l) : db ≠ c1 ∧ db ≠ c2 ∧ db ≠ c3 := by
  obtain ⟨es, c, hb, _⟩ := h.map
  refine ⟨?_, ?_, ?_⟩
  · rintro rfl; rw [h.d] at hb; simp at hb
  · rintro rfl; rw [h.p] at hb; simp at hb
  · rintro rfl; rw [h.f] at hb; simp at hb
theorem CloC.below {w w' : World} {s : St} {c1 c2 c3 db : Nat} {l : List (Int × Int)} (h : CloC w s c1 c2 c3 db l) (hb : Below w.heap.size w w') : CloC w' s c1 c2 c3 db l := by
  have lt : ∀ {k : Nat} {o : Obj}, w.heap[k]? = some o → k < w.heap.size := fun q => (Array.getElem?_eq_some_iff.1 q).1
  exact ⟨h.store.below hb, (hb.block _ (lt h.d)).trans h.d, (hb.block _ (lt h.p)).trans h.p, (hb.block _ (lt h.f)).trans h.f, h.map.of_block (hb.block _ h.map.lt), h.apart, h.good, h.zero, h.one⟩
theorem CloC.keep {w : World} {s : St} {c1 c2 c3 db : Nat} {l : List (Int × Int)} (h : CloC w s c1 c2 c3 db l) {f x a b c : Nat} (hf : f < s.ns.length) {t : TypeId}
    (hx : w.heap[x]? = some (.cells #[.int .i64 a, .int .i64 b, .int .i64 c] t (0, 0))) :
    w.cell? ⟨c3, 0, none⟩ = some (.func (.func 81) #[] #[.pointer (some ⟨c1, 0, none⟩), .pointer (some ⟨c2, 0, none⟩), .pointer (some ⟨c3, 0, none⟩)]) ∧
      w.cell? ⟨c2, 0, none⟩ = some (.pointer (some ⟨s.sb, 0, none⟩)) ∧ w.cell? ⟨s.sb, 2, none⟩ = some (.slice (some ⟨s.nb, 0, none⟩) s.ns.length s.cap) ∧
      w.cell? ⟨s.nb, f * 3, none⟩ = some (.int .i64 (Dd.T s.ns f)) ∧ w.cell? ⟨x, 0, none⟩ = some (.int .i64 a) :=
  ⟨cell_of_one h.f, cell_of_one h.p, h.store.c2, h.store.n0 hf, by simp [World.cell?, hx]⟩
def cntUpto (s : St) (f j : Nat) : Nat :=
  (if 1 ≤ j then 2 ^ (Dd.T s.ns (Dd.L s.ns f) - Dd.T s.ns f - 1) * Dd.cnt s.vars s.ns (Dd.T s.ns (Dd.L s.ns f)) (Dd.L s.ns f) else 0) +
  (if 2 ≤ j then 2 ^ (Dd.T s.ns (Dd.H s.ns f) - Dd.T s.ns f - 1) * Dd.cnt s.vars s.ns (Dd.T s.ns (Dd.H s.ns f)) (Dd.H s.ns f) else 0)
theorem cntUpto_two {w : World} {s : St} (h : StoreAt w s) {f : Nat} (h2 : 2 ≤ f) (hf : f < s.ns.length) : cntUpto s f 2 = Dd.cnt s.vars s.ns (Dd.T s.ns f) f := by
  rw [Dd.cnt_node h.wf h2 hf]; simp [cntUpto]
theorem cntUpto_le {w : World} {s : St} (h : StoreAt w s) {f : Nat} (h2 : 2 ≤ f) (hf : f < s.ns.length) (j : Nat) : cntUpto s f j ≤ 2 ^ 30 := by
  have h1 : cntUpto s f j ≤ cntUpto s f 2 := by unfold cntUpto; split <;> split <;> simp <;> omega
  rw [cntUpto_two h h2 hf] at h1
  have h3 := Dd.cnt_le s.vars s.ns (Dd.T s.ns f) f
  have h4 : 2 ^ (s.vars - Dd.T s.ns f) ≤ 2 ^ 30 := Nat.pow_le_pow_right (by omega) (by have := h.small; omega)
  omega
set_option maxHeartbeats 1000000 in
theorem below_rec (n : Nat) (ih : ∀ (f : Nat) (w : World) (s : St) (c1 c2 c3 db : Nat) (l : List (Int × Int)), f < n → CloC w s c1 c2 c3 db l → f < s.ns.length →
      Calls Tryz.prog 81 #[.int .i64 f, .pointer (some ⟨c1, 0, none⟩), .pointer (some ⟨c2, 0, none⟩), .pointer (some ⟨c3, 0, none⟩)] w fun e w' =>
        e = .returned (.int .i64 (Dd.cnt s.vars s.ns (Dd.T s.ns f) f : Nat)) ∧ (∃ l', CloC w' s c1 c2 c3 db l') ∧ Fr (· = db) w w')
    (f : Nat) (w : World) (s : St) (c1 c2 c3 db : Nat) (l : List (Int × Int)) (hfn : f < n + 1) (h : CloC w s c1 c2 c3 db l) (hf : f < s.ns.length) :
      Calls Tryz.prog 81 #[.int .i64 f, .pointer (some ⟨c1, 0, none⟩), .pointer (some ⟨c2, 0, none⟩), .pointer (some ⟨c3, 0, none⟩)] w fun e w' =>
        e = .returned (.int .i64 (Dd.cnt s.vars s.ns (Dd.T s.ns f) f : Nat)) ∧ (∃ l', CloC w' s c1 c2 c3 db l') ∧ Fr (· = db) w w' := by
  have hlk := h.map.lookup keyInt Tryz.underlying141 zeroInt (f : Int)
  have d1 := cell_of_one h.d
  rcases hq : look (f : Int) l with _ | m
  · have h2 : 2 ≤ f := by
      rcases Nat.lt_or_ge f 2 with hlt | hge
      · have : f = 0 ∨ f = 1 := by omega
        rcases this with rfl | rfl
        · have := h.zero; simp at hq; rw [this] at hq; cases hq
        · have := h.one; simp at hq; rw [this] at hq; cases hq
      · exact hge
    rw [hq] at hlk
    simp only [Option.map_none, Option.getD_none, Option.isSome_none, kI] at hlk
    have hlen := h.store.len
    have c2' := h.store.c2
    have p1 := cell_of_one h.p
    have n0 := h.store.n0 hf
    have n1 := h.store.n1 hf
    have n2 := h.store.n2 hf
    go_enter Tryz.func81, Tryz.ntmps81
    go_wp2_with fail
    obtain ⟨hLH, hL, hH, hT, hTL, hTH⟩ := h.store.wf.nd f h2 hf
    have hsm := h.store.small
    have hBa : Below w.heap.size w ((w.alloc (.cells #[.int .i64 (Dd.T s.ns f), .int .i64 (Dd.L s.ns f), .int .i64 (Dd.H s.ns f)] 108)).alloc (.cells #[.int .i64 (Dd.L s.ns f), .int .i64 (Dd.H s.ns f)] 3)) :=
      ((Below.refl _ _).alloc (Nat.le_refl _) _).alloc (by simp) _
    have C0 := h.below hBa
    have F0 := Fr.of_below hBa (· = db)
    have hX : ((w.alloc (.cells #[.int .i64 (Dd.T s.ns f), .int .i64 (Dd.L s.ns f), .int .i64 (Dd.H s.ns f)] 108)).alloc (.cells #[.int .i64 (Dd.L s.ns f), .int .i64 (Dd.H s.ns f)] 3)).heap[w.heap.size]? = some (.cells #[.int .i64 (Dd.T s.ns f), .int .i64 (Dd.L s.ns f), .int .i64 (Dd.H s.ns f)] 108 (0, 0)) := by
      rw [Below.heap_alloc _ _ _ (by show _ < (w.heap.push _).size; simp)]; exact heap_alloc_new w _
    have hY : ((w.alloc (.cells #[.int .i64 (Dd.T s.ns f), .int .i64 (Dd.L s.ns f), .int .i64 (Dd.H s.ns f)] 108)).alloc (.cells #[.int .i64 (Dd.L s.ns f), .int .i64 (Dd.H s.ns f)] 3)).heap[w.heap.size + 1]? = some (.cells #[.int .i64 (Dd.L s.ns f), .int .i64 (Dd.H s.ns f)] 3 (0, 0)) := by
      have := heap_alloc_new (w.alloc (.cells #[.int .i64 (Dd.T s.ns f), .int .i64 (Dd.L s.ns f), .int .i64 (Dd.H s.ns f)] 108)) (.cells #[.int .i64 (Dd.L s.ns f), .int .i64 (Dd.H s.ns f)] 3)
      have e : (w.alloc (.cells #[.int .i64 (Dd.T s.ns f), .int .i64 (Dd.L s.ns f), .int .i64 (Dd.H s.ns f)] 108)).heap.size = w.heap.size + 1 := by show (w.heap.push _).size = _; simp
      rw [e] at this; exact this
    have hsz : w.heap.size < ((w.alloc (.cells #[.int .i64 (Dd.T s.ns f), .int .i64 (Dd.L s.ns f), .int .i64 (Dd.H s.ns f)] 108)).alloc (.cells #[.int .i64 (Dd.L s.ns f), .int .i64 (Dd.H s.ns f)] 3)).heap.size := by show _ < ((w.heap.push _).push _).size; simp; omega
    generalize (w.alloc (.cells #[.int .i64 (Dd.T s.ns f), .int .i64 (Dd.L s.ns f), .int .i64 (Dd.H s.ns f)] 108)).alloc (.cells #[.int .i64 (Dd.L s.ns f), .int .i64 (Dd.H s.ns f)] 3) = W0 at hBa C0 F0 hX hY hsz ⊢
    have hdbX : db ≠ w.heap.size := by have := h.map.lt; omega
    have hdbY : db ≠ w.heap.size + 1 := by have := h.map.lt; omega
    clear hlk d1 c2' p1 n0 n1 n2 hBa
    go_loopw [9, 11, 33] (fun cn _ i wr => ∃ j : Nat, j ≤ 2 ∧ i = .int .i64 j ∧ cn = .int .i64 (cntUpto s f j : Nat) ∧ (∃ l', CloC wr s c1 c2 c3 db l') ∧ Fr (· = db) w wr ∧
        wr.heap[w.heap.size]? = some (.cells #[.int .i64 (Dd.T s.ns f), .int .i64 (Dd.L s.ns f), .int .i64 (Dd.H s.ns f)] 108 (0, 0)) ∧
        wr.heap[w.heap.size + 1]? = some (.cells #[.int .i64 (Dd.L s.ns f), .int .i64 (Dd.H s.ns f)] 3 (0, 0))) (fun _ _ i _ => 2 - (intOf i).toNat)
    case atStart => exact ⟨0, by omega, rfl, rfl, ⟨l, C0⟩, F0, hX, hY⟩
    case round =>
      obtain ⟨j, hj, rfl, rfl, ⟨l', C⟩, F, kX, kY⟩ := hrel
      clear C0 F0 hX hY hsz
      by_cases hlt : j < 2
      · obtain ⟨c, hc, hcj⟩ : ∃ c, c = (if j = 0 then Dd.L s.ns f else Dd.H s.ns f) ∧ wr.cell? ⟨w.heap.size + 1, j, none⟩ = some (.int .i64 c) := by
          refine ⟨_, rfl, ?_⟩
          have : j = 0 ∨ j = 1 := by omega
          rcases this with rfl | rfl <;> simp [World.cell?, kY]
        have hcf : c < f := by rw [hc]; split <;> omega
        have hcT : Dd.T s.ns f < Dd.T s.ns c := by rw [hc]; split <;> omega
        have hcl : c < s.ns.length := by omega
        have hTc := Dd.T_le C.store.wf hcl
        have HC : Hid (c = (if j = 0 then Dd.L s.ns f else Dd.H s.ns f)) := hc
        have c2' := C.store.c2
        have f1 := cell_of_one C.f
        have p1 := cell_of_one C.p
        have nc := C.store.n0 hcl
        have x0 : wr.cell? ⟨w.heap.size, 0, none⟩ = some (.int .i64 (Dd.T s.ns f)) := by simp [World.cell?, kX]
        obtain ⟨cc, hcc⟩ : ∃ cc, cc = Dd.cnt s.vars s.ns (Dd.T s.ns c) c := ⟨_, rfl⟩
        obtain ⟨pp, hpp⟩ : ∃ pp, pp = 2 ^ (Dd.T s.ns c - Dd.T s.ns f - 1) * cc := ⟨_, rfl⟩
        have hbound : pp ≤ 2 ^ 29 := by
          have h1 := Dd.cnt_le s.vars s.ns (Dd.T s.ns c) c
          rw [← hcc] at h1
          rw [hpp]
          refine Nat.le_trans (Nat.mul_le_mul_left _ h1) ?_
          rw [← Nat.pow_add]
          exact Nat.pow_le_pow_right (by omega) (by omega)
        have hup : cntUpto s f (j + 1) = cntUpto s f j + pp := by
          have : j = 0 ∨ j = 1 := by omega
          rcases this with rfl | rfl
          · simp at hc; subst hc; simp [cntUpto, hpp, hcc]
          · simp at hc; subst hc; simp [cntUpto, hpp, hcc]
        have hju := cntUpto_le C.store h2 hf j
        have e1 : IntKind.i64.wrap ((Dd.T s.ns c : Int) - (Dd.T s.ns f : Int)) = (Dd.T s.ns c : Int) - (Dd.T s.ns f : Int) := IntWalk.i64_in _ (by omega)
        have e2 : IntKind.i64.wrap ((Dd.T s.ns c : Int) - (Dd.T s.ns f : Int) - 1) = (Dd.T s.ns c : Int) - (Dd.T s.ns f : Int) - 1 := IntWalk.i64_in _ (by omega)
        have e3 : IntKind.i64.wrap ((cc : Int) * 2 ^ (Dd.T s.ns c - Dd.T s.ns f - 1)) = (pp : Int) := by
          have e' : (cc : Int) * 2 ^ (Dd.T s.ns c - Dd.T s.ns f - 1) = (pp : Int) := by rw [hpp, Nat.mul_comm]; simp
          rw [e', IntWalk.i64_in _ (by omega)]
        have e4 : IntKind.i64.wrap ((cntUpto s f j : Int) + (pp : Int)) = (cntUpto s f (j + 1) : Int) := by
          rw [IntWalk.i64_in _ (by omega), hup]; simp
        have HCC : Hid (cc = Dd.cnt s.vars s.ns (Dd.T s.ns c) c) := hcc
        clear hc hup hcc hpp
        go_wp2_with fail
        go_region_held3 (fun w' => w'.cell? ⟨c3, 0, none⟩ = some (.func (.func 81) #[] #[.pointer (some ⟨c1, 0, none⟩), .pointer (some ⟨c2, 0, none⟩), .pointer (some ⟨c3, 0, none⟩)]) ∧
            w'.cell? ⟨c2, 0, none⟩ = some (.pointer (some ⟨s.sb, 0, none⟩)) ∧ w'.cell? ⟨s.sb, 2, none⟩ = some (.slice (some ⟨s.nb, 0, none⟩) s.ns.length s.cap) ∧
            w'.cell? ⟨s.nb, c * 3, none⟩ = some (.int .i64 (Dd.T s.ns c)) ∧ w'.cell? ⟨w.heap.size, 0, none⟩ = some (.int .i64 (Dd.T s.ns f)))
          (first | go_keep | exact HKEEP)
          (first | (go_at_call 81; refine (ih c wr.drew s c1 c2 c3 db l' (by omega) (C.below (Below.refl _ _).drew) hcl).mono ?_; rw [← HCC.out]; rintro e w2 ⟨rfl, ⟨l2, C2⟩, F2⟩; have HKEEP := CloC.keep C2 (f := c) (x := w.heap.size) hcl ((F2.block _ (Array.getElem?_eq_some_iff.1 kX).1 (fun q => hdbX q.symm)).trans kX)))
        have hlw : w.heap.size < wr.heap.size := (Array.getElem?_eq_some_iff.1 kX).1
        have hlw2 : w.heap.size + 1 < wr.heap.size := (Array.getElem?_eq_some_iff.1 kY).1
        have kX2 := (F2.block _ hlw (fun q => hdbX q.symm)).trans kX
        have kY2 := (F2.block _ hlw2 (fun q => hdbY q.symm)).trans kY
        have FF := (F.trans (Fr.of_below (Below.refl _ _).drew (· = db)) (fun _ _ q => q)).trans F2 (fun _ _ q => q)
        clear HKEEP e1 e2 e3 e4
        go_wp2_with fail
        go_roundw
        case rel => exact ⟨j + 1, by omega, by go_num, rfl, ⟨l2, C2⟩, FF, kX2, kY2⟩
        case measure => simp [intOf]; omega
      · have hj2 : j = 2 := by omega
        subst hj2
        have HT : Hid (cntUpto s f 2 = Dd.cnt s.vars s.ns (Dd.T s.ns f) f) := cntUpto_two C.store h2 hf
        have d1 := cell_of_one C.d
        go_wp2_with (refine wpList_update_is rfl _ _ _ _ rfl keyInt Tryz.underlying141 C.map rfl (f : Int) (cntUpto s f 2 : Int) rfl rfl ?_; intro w3 hm3 hg3)
        go_ret
        refine ⟨by rw [HT.out]; rfl, ⟨_, ⟨?_, ?_, ?_, ?_, hm3, C.apart, ?_, ?_, ?_⟩⟩, F.trans (S' := (· = db)) ⟨hg3.os, hg3.tape, hg3.output, hg3.size, fun k hk hn => hg3.block k hk (by simpa using hn)⟩ (fun _ _ q => q)⟩
        · exact C.store.kept fun k hk => hg3.block k (C.store.lt hk) (by simp; rintro rfl; exact C.apart hk)
        · rw [hg3.block c1 (Array.getElem?_eq_some_iff.1 C.d).1 (by simp; exact fun q => C.db_ne.1 q.symm)]; exact C.d
        · rw [hg3.block c2 (Array.getElem?_eq_some_iff.1 C.p).1 (by simp; exact fun q => C.db_ne.2.1 q.symm)]; exact C.p
        · rw [hg3.block c3 (Array.getElem?_eq_some_iff.1 C.f).1 (by simp; exact fun q => C.db_ne.2.2 q.symm)]; exact C.f
        · intro x n hx
          rw [look_putAt] at hx
          split at hx
          · rename_i e; simp at hx; exact ⟨f, e.symm, hf, by rw [← hx, HT.out]⟩
          · exact C.good x n hx
        · rw [look_putAt, if_neg (by omega)]; exact C.zero
        · rw [look_putAt, if_neg (by omega)]; exact C.one
  · rw [hq] at hlk
    simp only [Option.map_some, Option.getD_some, Option.isSome_some, kI] at hlk
    obtain ⟨f', e1, e2, e3⟩ := h.good _ _ hq
    have e4 : f' = f := by omega
    subst e4
    go_enter Tryz.func81, Tryz.ntmps81
    go_wp2_with fail
    go_ret
    exact ⟨rfl, ⟨l, h⟩, Fr.refl _ _⟩
theorem below_any : ∀ (n f : Nat) (w : World) (s : St) (c1 c2 c3 db : Nat) (l : List (Int × Int)), f < n → CloC w s c1 c2 c3 db l → f < s.ns.length →
      Calls Tryz.prog 81 #[.int .i64 f, .pointer (some ⟨c1, 0, none⟩), .pointer (some ⟨c2, 0, none⟩), .pointer (some ⟨c3, 0, none⟩)] w fun e w' =>
        e = .returned (.int .i64 (Dd.cnt s.vars s.ns (Dd.T s.ns f) f : Nat)) ∧ (∃ l', CloC w' s c1 c2 c3 db l') ∧ Fr (· = db) w w' := by
  intro n
  induction n with
  | zero => intro f w s c1 c2 c3 db l hf; omega
  | succ n ih => exact fun f w s c1 c2 c3 db l hf h hl => below_rec n ih f w s c1 c2 c3 db l hf h hl
set_option maxHeartbeats 1000000 in
theorem Count_any (w : World) (s : St) (h : StoreAt w s) (f : Nat) (hf : f < s.ns.length) :
    Calls Tryz.prog 41 #[.pointer (some ⟨s.sb, 0, none⟩), .int .i64 f] w fun e w' => e = .returned (.tuple #[.int .i64 (Dd.cnt s.vars s.ns 0 f : Nat), .int .i64 0]) ∧ Below w.heap.size w w' := by
  have hok : okIn s.ns.length [(f : Int)] = true := okIn_nat (l := [f]) (by simpa using hf)
  have hB0 : Below w.heap.size w (w.alloc (.cells #[.pointer (some ⟨s.sb, 0, none⟩)] 43)) := (Below.refl _ _).alloc (Nat.le_refl _) _
  have hB : Below w.heap.size w ((w.alloc (.cells #[.pointer (some ⟨s.sb, 0, none⟩)] 43)).alloc (.cells #[.int .i64 f] 3)) := hB0.alloc (by simp) _
  have hp0 : ((w.alloc (.cells #[.pointer (some ⟨s.sb, 0, none⟩)] 43)).alloc (.cells #[.int .i64 f] 3)).heap[w.heap.size]? = some (.cells #[.pointer (some ⟨s.sb, 0, none⟩)] 43 (0, 0)) := by
    rw [Below.heap_alloc _ _ _ (by show _ < (w.heap.push _).size; simp)]; exact heap_alloc_new w _
  have hmm := @run_makeMap Tryz.prog
  go_enter Tryz.func41, Tryz.ntmps41
  go_wp2_with fail
  refine (are_any _ s (h.below hB) (.slice (some ⟨w.heap.size + 1, 0, none⟩) 1 1) [(f : Int)] ?_).mono ?_
  · have := SlInts.new1 (w.alloc (.cells #[.pointer (some ⟨s.sb, 0, none⟩)] 43)) f
    have e : (w.alloc (.cells #[.pointer (some ⟨s.sb, 0, none⟩)] 43)).heap.size = w.heap.size + 1 := by show (w.heap.push _).size = _; simp
    rw [e] at this; exact this
  rintro e w1 ⟨rfl, hw1⟩
  rw [hok]
  have hB1 : Below w.heap.size w w1 := by rw [hw1]; exact hB
  have hS1 : StoreAt w1 s := h.below hB1
  have hp1 : w1.heap[w.heap.size]? = some (.cells #[.pointer (some ⟨s.sb, 0, none⟩)] 43 (0, 0)) := by rw [hw1]; exact hp0
  have hm1 := MapIs.made kI kI w1
  clear hw1 hB hB0 hok hp0
  go_wp2_with (first | (refine wpList_insert_is rfl _ _ _ _ rfl keyInt Tryz.underlying141 hm1 rfl (0 : Int) (0 : Int) rfl rfl ?_; intro w2 hm2 hg2) | (refine wpList_insert_is rfl _ _ _ _ rfl keyInt Tryz.underlying141 hm2 rfl (1 : Int) (1 : Int) rfl rfl ?_; intro w3 hm3 hg3))
  have hg13 : w1.heap.size < w3.heap.size := by
    have h1 := hg2.size; have h2 := hg3.size
    have e : (w1.alloc (.map #[] 0)).heap.size = w1.heap.size + 1 := by show (w1.heap.push _).size = _; simp
    omega
  have hold : ∀ k, k < w1.heap.size → w3.heap[k]? = w1.heap[k]? := fun k hk => by
    have h1 := hg2.size
    have e : (w1.alloc (.map #[] 0)).heap.size = w1.heap.size + 1 := by show (w1.heap.push _).size = _; simp
    rw [hg3.block k (by omega) (by simp; omega), hg2.block k (by omega) (by simp; omega), Below.heap_alloc _ _ _ hk]
  have hB13 : Below w1.heap.size w1 w3 := ⟨hg3.os.trans hg2.os, hg3.tape.trans hg2.tape, hg3.output.trans hg2.output, by omega, hold⟩
  have hlp : w.heap.size < w1.heap.size := (Array.getElem?_eq_some_iff.1 hp1).1
  have CC : CloC ((w3.alloc (.cells #[.map (some w1.heap.size)] 141)).alloc (.cells #[.func (.func 81) #[] #[.pointer (some ⟨w3.heap.size, 0, none⟩), .pointer (some ⟨w.heap.size, 0, none⟩), .pointer (some ⟨w3.heap.size + 1, 0, none⟩)]] 142)) s w3.heap.size w.heap.size (w3.heap.size + 1) w1.heap.size (putAt 1 1 (putAt 0 0 [])) := by
    have hBB : Below w3.heap.size w3 ((w3.alloc (.cells #[.map (some w1.heap.size)] 141)).alloc (.cells #[.func (.func 81) #[] #[.pointer (some ⟨w3.heap.size, 0, none⟩), .pointer (some ⟨w.heap.size, 0, none⟩), .pointer (some ⟨w3.heap.size + 1, 0, none⟩)]] 142)) :=
      ((Below.refl _ _).alloc (Nat.le_refl _) _).alloc (by simp) _
    have two := h.wf.two
    refine ⟨(hS1.below hB13).below hBB, ?_, ?_, ?_, hm3.of_block (hBB.block _ hg13), bl_new hS1 (Nat.le_refl _), ?_, ?_, ?_⟩
    · rw [heap_alloc_at, if_neg (by show _ ≠ (w3.heap.push _).size; simp), heap_alloc_at, if_pos rfl]
    · rw [hBB.block _ (by omega), hold _ hlp]; exact hp1
    · rw [heap_alloc_at, if_pos (by show _ = (w3.heap.push _).size; simp)]
    · intro x n hx
      rw [look_putAt, look_putAt] at hx
      by_cases h1 : (1 : Int) = x
      · subst h1; simp at hx; exact ⟨1, rfl, by omega, by rw [Dd.cnt_one h.wf]; simpa using hx.symm⟩
      · rw [if_neg h1] at hx
        by_cases h0 : (0 : Int) = x
        · subst h0; simp at hx; exact ⟨0, rfl, by omega, by rw [Dd.cnt_zero]; simpa using hx.symm⟩
        · rw [if_neg h0] at hx; simp [look] at hx
    · rw [look_putAt, look_putAt]; simp
    · rw [look_putAt]; simp
  have hBW : Below w.heap.size w ((w3.alloc (.cells #[.map (some w1.heap.size)] 141)).alloc (.cells #[.func (.func 81) #[] #[.pointer (some ⟨w3.heap.size, 0, none⟩), .pointer (some ⟨w.heap.size, 0, none⟩), .pointer (some ⟨w3.heap.size + 1, 0, none⟩)]] 142)) :=
    ((hB1.trans (hB13.mono hB1.size)).alloc (by omega) _).alloc (by show _ ≤ (w3.heap.push _).size; simp; omega) _
  have hsz1 : w.heap.size ≤ w1.heap.size := hB1.size
  generalize (w3.alloc (.cells #[.map (some w1.heap.size)] 141)).alloc (.cells #[.func (.func 81) #[] #[.pointer (some ⟨w3.heap.size, 0, none⟩), .pointer (some ⟨w.heap.size, 0, none⟩), .pointer (some ⟨w3.heap.size + 1, 0, none⟩)]] 142) = W4 at CC hBW ⊢
  generalize w1.heap.size = db at CC hsz1
  obtain ⟨cc, hcc⟩ : ∃ cc, cc = Dd.cnt s.vars s.ns (Dd.T s.ns f) f := ⟨_, rfl⟩
  obtain ⟨pp, hpp⟩ : ∃ pp, pp = Dd.cnt s.vars s.ns 0 f := ⟨_, rfl⟩
  have hTv := Dd.T_le h.wf hf
  have hsm := h.small
  have hlen := h.len
  have hbound : pp ≤ 2 ^ 30 := by
    have h1 := Dd.cnt_le s.vars s.ns 0 f
    rw [← hpp] at h1
    exact Nat.le_trans h1 (Nat.pow_le_pow_right (by omega) (by omega))
  have e3 : IntKind.i64.wrap ((cc : Int) * 2 ^ (Dd.T s.ns f)) = (pp : Int) := by
    have e' : (cc : Int) * 2 ^ (Dd.T s.ns f) = (pp : Int) := by rw [hpp, hcc, Dd.cnt_down h.wf hf (Dd.T s.ns f) 0 (by simp), Nat.mul_comm]; simp
    rw [e', IntWalk.i64_in _ (by omega)]
  have HCC : Hid (cc = Dd.cnt s.vars s.ns (Dd.T s.ns f) f) := hcc
  have HPP : Hid (pp = Dd.cnt s.vars s.ns 0 f) := hpp
  have c2' := CC.store.c2
  have f1 := cell_of_one CC.f
  have p1 := cell_of_one CC.p
  have nc := CC.store.n0 hf
  clear hcc hpp hold hB13 hg2 hg3 hm2 hm3 hm1 hmm hp1 hS1 hB1
  go_region_held3 (fun w' => w'.cell? ⟨w3.heap.size + 1, 0, none⟩ = some (.func (.func 81) #[] #[.pointer (some ⟨w3.heap.size, 0, none⟩), .pointer (some ⟨w.heap.size, 0, none⟩), .pointer (some ⟨w3.heap.size + 1, 0, none⟩)]) ∧
      w'.cell? ⟨w.heap.size, 0, none⟩ = some (.pointer (some ⟨s.sb, 0, none⟩)) ∧ w'.cell? ⟨s.sb, 2, none⟩ = some (.slice (some ⟨s.nb, 0, none⟩) s.ns.length s.cap) ∧
      w'.cell? ⟨s.nb, f * 3, none⟩ = some (.int .i64 (Dd.T s.ns f)))
    (first | go_keep | exact HKEEP)
    (first | (go_at_call 81; refine (below_any (f + 1) f W4.drew s _ _ _ db _ (by omega) (CC.below (Below.refl _ _).drew) hf).mono ?_; rw [← HCC.out]; rintro e w5 ⟨rfl, ⟨l2, C2⟩, F2⟩; have HKEEP := And.intro (cell_of_one C2.f) (And.intro (cell_of_one C2.p) (And.intro C2.store.c2 (C2.store.n0 hf)))))
  clear HKEEP e3
  go_wp2_with fail
  go_ret2
  refine ⟨by rw [HPP.out]; rfl, F2.below hBW.drew hBW.size (fun i hi => by omega)⟩
end Go.Proofs.YtjnpkdpljmkpiaaGreatDoor
