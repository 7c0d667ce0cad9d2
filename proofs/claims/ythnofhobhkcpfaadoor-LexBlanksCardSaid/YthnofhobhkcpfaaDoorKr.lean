/- The law LexBack: the walk. -/
import Derived.Test.YthnofhobhkcpfaaDoorKp
namespace Go.Proofs.YthnofhobhkcpfaaDoor
open Go.RowKit Go.Shelf

namespace Lx
theorem first_err {r : Bs} {e : Nat} (h : first r = .err e) : e ≠ 0 := by
  unfold first at h
  simp only at h
  split at h
  · split at h
    · cases h
    · split at h
      · cases h
      · split at h
        · split at h
          · cases h
          · cases h; omega
        · cases h; omega
  · split at h
    · cases h; omega
    · cases h
theorem lexS_err_ne : ∀ r c m, (lexS r).2 = some (c, m) → c ≠ 0 := by
  refine lex_ind (P := fun r => ∀ c m, (lexS r).2 = some (c, m) → c ≠ 0) ?_ ?_ ?_ ?_ ?_
  · intro c m h; rw [lexS_nil] at h; cases h
  · intro c r hb ih; rw [lexS_blank hb]; exact ih
  · intro u hn hu hc ih; rw [lexS_com hn hu hc]; exact ih
  · intro u e hn hu hc he c m h; rw [lexS_err hn hu hc he] at h; cases h; exact first_err he
  · intro u k t hn hu hc ht hp hne ih; rw [lexS_tok hn hu hc ht]; exact ih
end Lx

theorem lexEr_zero {s : ByteArray} (h : lexEr s = 0) : (Lx.lexS s.data.toList).2 = none ∧ lexToks s = toks s.size (Lx.lexS s.data.toList).1 ∧ lexAt s = 0 := by
  cases hq : (Lx.lexS s.data.toList).2 with
  | none => exact ⟨rfl, by unfold lexToks; rw [hq], by unfold lexAt; rw [hq]⟩
  | some p =>
    obtain ⟨c, m⟩ := p
    unfold lexEr at h; rw [hq] at h
    exact absurd h (Lx.lexS_err_ne _ c m hq)
theorem lexEr_some {s : ByteArray} (h : lexEr s ≠ 0) : ∃ c m, (Lx.lexS s.data.toList).2 = some (c, m) ∧ lexEr s = c ∧ lexAt s = s.size - m ∧ lexToks s = [] := by
  cases hq : (Lx.lexS s.data.toList).2 with
  | none => unfold lexEr at h; rw [hq] at h; exact absurd rfl h
  | some p =>
    obtain ⟨c, m⟩ := p
    exact ⟨c, m, rfl, by unfold lexEr; rw [hq], by unfold lexAt; rw [hq], by unfold lexToks; rw [hq]⟩
theorem lexEr_of_none {s : ByteArray} (h : (Lx.lexS s.data.toList).2 = none) : lexEr s = 0 := by unfold lexEr; rw [h]

/-- The joined texts. -/
def joined (s : ByteArray) : ByteArray := ⟨(Lx.join (texts (lexToks s))).toArray⟩
theorem joined_size (s : ByteArray) : (joined s).size ≤ 2 * s.size := by
  have h1 := lexToks_room s
  have h2 := Lx.join_length (texts (lexToks s))
  have h3 : ((texts (lexToks s)).map (fun t => t.length + 1)).sum = Lx.room (texts (lexToks s)) := rfl
  have h4 : (joined s).size = (Lx.join (texts (lexToks s))).length := by rw [← size_toList]; rfl
  omega
theorem back_toks {s : ByteArray} (h : lexEr s = 0) : lexEr (joined s) = 0 ∧ (lexToks (joined s)).map (fun x => (x.k, x.t)) = (lexToks s).map (fun x => (x.k, x.t)) := by
  obtain ⟨h1, h2, _⟩ := lexEr_zero h
  obtain ⟨g1, g2⟩ := Lx.lexS_join (Lx.lexS s.data.toList).1 (Lx.lexS_is s.data.toList)
  have e : (joined s).data.toList = Lx.join ((Lx.lexS s.data.toList).1.map (·.t)) := by
    show Lx.join (texts (lexToks s)) = _
    rw [h2, texts_toks]
  have g3 : (Lx.lexS (joined s).data.toList).2 = none := by rw [e]; exact g1
  have g4 := lexEr_of_none g3
  refine ⟨g4, ?_⟩
  rw [(lexEr_zero g4).2.1, h2, e]
  unfold toks
  rw [List.map_map, List.map_map]
  have : ∀ (N : Nat) (l : List Lx.R), l.map ((fun x : Tok => (x.k, x.t)) ∘ tok N) = (l.map (fun x => (x.k, x.t))).map (fun p => (p.1, (⟨p.2.toArray⟩ : ByteArray))) := by
    intro N l; rw [List.map_map]; rfl
  rw [this, this, g2]

set_option maxRecDepth 100000 in
set_option maxHeartbeats 2000000 in
theorem back_any (s : ByteArray) (w : World) (G : Gl w) : Calls Tryd.prog 4 #[.string s] w fun e w' => e = .returned (.bool true) ∧ Below w.heap.size w w' := by
  by_cases hs : 1000 < s.size
  · go_enter Tryd.func4, Tryd.ntmps4
    go_wp2_with fail
    refine (live_any w G).mono ?_
    rintro e w1 ⟨rfl, hb1⟩
    go_wp2_with fail
    go_ret
    exact ⟨rfl, hb1⟩
  have hs1 : s.size ≤ 1000 := by omega
  clear hs
  go_enter Tryd.func4, Tryd.ntmps4
  go_wp2_with fail
  refine (Lex_res s (by omega) w G).mono ?_
  rintro e w1 ⟨v, er, at_, rfl, hb1, s1, her, hat⟩
  have G1 := G.below hb1
  have nb1 := (Below.refl w1.heap.size w1).alloc (Nat.le_refl _) (.cells #[.int .i64 er, .int .i64 at_] 26)
  have B1 := below_next hb1 nb1
  have k1 := Blk.new w1 #[.int .i64 er, .int .i64 at_] 26
  have s1 := s1.below nb1
  have G1 := G1.below nb1
  have HE : Hid (er = (lexEr s : Nat)) := her
  clear hb1 nb1 G her hat
  by_cases hz : lexEr s = 0
  · have er0 : er = 0 := by rw [HE.out, hz]; rfl
    subst er0
    obtain ⟨hj1, hj2⟩ := back_toks hz
    have HJ1 : Hid (lexEr (joined s) = 0) := hj1
    have HJ2 : Hid ((lexToks (joined s)).map (fun x => (x.k, x.t)) = (lexToks s).map (fun x => (x.k, x.t))) := hj2
    have hroom := lexToks_room s
    have hjs := joined_size s
    clear hz hj1 hj2 k1
    go_wp2_with fail
    generalize w1.alloc (.cells #[.int .i64 0, .int .i64 at_] 26) = W1 at B1 s1 G1 ⊢
    generalize w1.heap.size = b1
    refine (Join_any W1 v (lexToks s) s1 (by omega)).mono ?_
    rintro e w2 ⟨rfl, hb2⟩
    rw [show (⟨(Lx.join (texts (lexToks s))).toArray⟩ : ByteArray) = joined s from rfl]
    have B2 := below_next B1 hb2
    have s1 := s1.below hb2
    have G2 := G1.below hb2
    clear hb2 B1 G1
    go_wp2_with fail
    refine (Lex_res (joined s) (by omega) w2 G2).mono ?_
    rintro e w3 ⟨v2, er2, at2, rfl, hb3, s2, her, hat⟩
    have er0 : er2 = 0 := by rw [her, HJ1.out]; rfl
    subst er0
    have nb3 := (Below.refl w3.heap.size w3).alloc (Nat.le_refl _) (.cells #[.int .i64 0, .int .i64 at2] 26)
    have B3 := below_next (below_next B2 hb3) nb3
    have s1 := (s1.below hb3).below nb3
    have G3 := (G2.below hb3).below nb3
    have s2 := s2.below nb3
    clear hb3 nb3 her hat B2 G2
    obtain ⟨p1, c1, rfl, hl1, f1⟩ := s1.form
    obtain ⟨p2, c2, rfl, hl2, f2⟩ := s2.form
    obtain ⟨n, hn⟩ : ∃ n, n = (lexToks s).length := ⟨_, rfl⟩
    have hn2 : n = (lexToks (joined s)).length := by
      have := congrArg List.length HJ2.out
      simp at this; omega
    have hcnt := lexToks_len s
    rw [← hn] at hl1 hcnt ⊢
    rw [← hn2] at hl2 ⊢
    have HN1 : Hid (n = (lexToks s).length) := hn
    have HN2 : Hid (n = (lexToks (joined s)).length) := hn2
    clear hn hn2 s1 s2
    go_wp2_with fail
    generalize w3.alloc (.cells #[.int .i64 0, .int .i64 at2] 26) = W3 at B3 G3 f1 f2 ⊢
    generalize w3.heap.size = b3
    go_loopw [7] (fun i wr => ∃ k : Nat, k ≤ n ∧ i = .int .i64 k ∧ ∃ q, wr = W3.drewN q) (fun i _ => n - (intOf i).toNat)
    case atStart => exact ⟨0, Nat.zero_le _, rfl, 0, rfl⟩
    case round =>
      obtain ⟨k, hk, rfl, q, rfl⟩ := hrel
      by_cases hlt : k < n
      · obtain ⟨x, hx⟩ : ∃ x, (lexToks s)[k]? = some x := ⟨_, List.getElem?_eq_getElem (by have := HN1.out; omega)⟩
        obtain ⟨y, hy⟩ : ∃ y, (lexToks (joined s))[k]? = some y := ⟨_, List.getElem?_eq_getElem (by have := HN2.out; omega)⟩
        have hxy : y.k = x.k ∧ y.t = x.t := by
          have := congrArg (fun l => l[k]?) HJ2.out
          simp only [List.getElem?_map, hx, hy, Option.map_some, Option.some.injEq, Prod.mk.injEq] at this
          exact this
        obtain ⟨b, o, rfl, hc⟩ := f1 W3 (Below.refl _ _) k x hx
        obtain ⟨b', o', rfl, hc'⟩ := f2 W3 (Below.refl _ _) k y hy
        have c0 : W3.cell? ⟨b, o + k * 3, none⟩ = some (.int .i64 x.k) := hc 0 _ rfl
        have c1 : W3.cell? ⟨b, o + k * 3 + 1, none⟩ = some (.string x.t) := hc 1 _ rfl
        have d0 : W3.cell? ⟨b', o' + k * 3, none⟩ = some (.int .i64 y.k) := hc' 0 _ rfl
        have d1 : W3.cell? ⟨b', o' + k * 3 + 1, none⟩ = some (.string y.t) := hc' 1 _ rfl
        rw [hxy.1] at d0
        rw [hxy.2] at d1
        have hk0 : (0 : Int) ≤ (k : Int) := by omega
        have hk1 : (k : Int) < (n : Int) := by omega
        have e0 : (((x.k : Nat) : Int) != ((x.k : Nat) : Int)) = false := by simp
        clear hc hc' hx hy hxy f1 f2
        go_wp2_with fail
        go_quiet (fail)
        go_wp2_with fail
        go_roundw
        case rel => exact ⟨k + 1, by omega, by go_num, _, rfl⟩
        case measure => simp [intOf]; omega
      · have hke : k = n := by omega
        subst hke
        clear f1 f2
        go_wp2_with fail
        refine (live_any _ (G3.below (below_drawn (Below.refl _ _) q))).mono ?_
        rintro e w5 ⟨rfl, hb5⟩
        go_wp2_with fail
        go_ret
        exact ⟨rfl, below_next (below_drawn B3 q) hb5⟩
  · obtain ⟨c, m, _, h2, _, h4⟩ := lexEr_some hz
    rw [h4] at s1
    have hv : ∃ p c, v = .slice p 0 c := by
      obtain ⟨p, c, h, _⟩ := s1.form
      exact ⟨p, c, h⟩
    obtain ⟨p, c, rfl⟩ := hv
    have hne : (er != 0) = true := by rw [bne_iff_ne, HE.out]; omega
    obtain ⟨a0, a1, -, -⟩ := two_cells k1
    clear hz h2 h4 s1
    go_wp2_with fail
    refine (live_any _ G1).mono ?_
    rintro e w5 ⟨rfl, hb5⟩
    go_wp2_with fail
    go_ret
    exact ⟨rfl, below_next B1 hb5⟩
end Go.Proofs.YthnofhobhkcpfaaDoor
