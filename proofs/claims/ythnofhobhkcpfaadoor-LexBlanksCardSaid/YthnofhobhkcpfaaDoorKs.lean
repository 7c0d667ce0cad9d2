/- The law LexStands: the walk. -/
import Derived.Test.YthnofhobhkcpfaaDoorKr
import Derived.Deep.QuietTactic
import Derived.BigQuiet
namespace Go.Proofs.YthnofhobhkcpfaaDoor
open Go.RowKit Go.Shelf

/-- Tokens, each behind the one ahead of it. -/
def TChain (S : ByteArray) : Nat → List Tok → Prop
  | _, [] => True
  | e, x :: l => e ≤ x.p ∧ x.t.toList ≠ [] ∧ x.p + x.t.size ≤ S.size ∧ (S.extract x.p (x.p + x.t.size)).toList = x.t.toList ∧ TChain S (x.p + x.t.size) l
theorem mk_size (l : List UInt8) : (⟨l.toArray⟩ : ByteArray).size = l.length := by rw [← size_toList]
theorem tchain_of (S : ByteArray) : ∀ (l : List Lx.R) (e : Nat), Lx.Chain S.data.toList e l → TChain S e (toks S.size l)
  | [], _, _ => trivial
  | x :: l, e, h => by
    obtain ⟨h1, h2, h3, h4, h5⟩ := h
    simp only [size_toList] at h1 h2 h4 h5
    have hle := h4.length_le
    rw [List.length_drop, size_toList] at hle
    have e1 : (tok S.size x).p = S.size - x.m := rfl
    have e2 : (tok S.size x).t.size = x.t.length := mk_size _
    have e3 : (tok S.size x).t.data.toList = x.t := rfl
    refine ⟨h1, ?_, ?_, ?_, ?_⟩
    · rw [Lib.toList_data]; exact h3
    · rw [e1, e2]
      have := List.length_pos_iff.2 h3; omega
    · rw [e1, e2, Lib.toList_data, Lib.toList_data, e3, ByteArray.data_extract, Array.toList_extract, List.extract_eq_take_drop]
      rw [show S.size - x.m + x.t.length - (S.size - x.m) = x.t.length by omega]
      exact (List.prefix_iff_eq_take.1 h4).symm
    · have := tchain_of S l _ h5
      rw [e1, e2]; exact this
theorem lexToks_chain (s : ByteArray) : TChain s 0 (lexToks s) := by
  have h := (Lx.lexS_chain s.data.toList s.data.toList (List.suffix_refl _)).1
  rw [Nat.sub_self] at h
  by_cases hz : lexEr s = 0
  · rw [(lexEr_zero hz).2.1]; exact tchain_of s _ 0 h
  · obtain ⟨_, _, _, _, _, h4⟩ := lexEr_some hz
    rw [h4]; trivial
theorem lexAt_lt {s : ByteArray} (hz : lexEr s ≠ 0) : lexAt s < s.size := by
  obtain ⟨c, m, h1, _, h3, _⟩ := lexEr_some hz
  have := (Lx.lexS_chain s.data.toList s.data.toList (List.suffix_refl _)).2 c m h1
  rw [size_toList] at this
  omega

set_option maxRecDepth 100000 in
set_option maxHeartbeats 2000000 in
theorem stands_any (s : ByteArray) (w : World) (G : Gl w) : Calls Tryd.prog 5 #[.string s] w fun e w' => e = .returned (.bool true) ∧ Below w.heap.size w w' := by
  by_cases hs : 1000 < s.size
  · go_enter Tryd.func5, Tryd.ntmps5
    go_wp2_with fail
    refine (live_any w G).mono ?_
    rintro e w1 ⟨rfl, hb1⟩
    go_wp2_with fail
    go_ret
    exact ⟨rfl, hb1⟩
  have hs1 : s.size ≤ 1000 := by omega
  clear hs
  go_enter Tryd.func5, Tryd.ntmps5
  go_wp2_with fail
  refine (Lex_res s (by omega) w G).mono ?_
  rintro e w1 ⟨v, er, at_, rfl, hb1, s1, her, hat⟩
  have G1 := G.below hb1
  have nb1 := (Below.refl w1.heap.size w1).alloc (Nat.le_refl _) (.cells #[.int .i64 er, .int .i64 at_] 26)
  have B1 := below_next hb1 nb1
  have k1 := Blk.new w1 #[.int .i64 er, .int .i64 at_] 26
  have s1 := s1.below nb1
  have G1 := G1.below nb1
  have HE : Hid (er = (lexEr s : Nat)) := her
  have HA : Hid (at_ = (lexAt s : Nat)) := hat
  clear hb1 nb1 G her hat
  obtain ⟨p1, c1, rfl, hl1, f1⟩ := s1.form
  obtain ⟨n, hn⟩ : ∃ n, n = (lexToks s).length := ⟨_, rfl⟩
  have hcnt := lexToks_len s
  rw [← hn] at hl1 hcnt ⊢
  have HN1 : Hid (n = (lexToks s).length) := hn
  have HCH : Hid (TChain s 0 (lexToks s)) := lexToks_chain s
  clear hn s1
  go_wp2_with fail
  generalize w1.alloc (.cells #[.int .i64 er, .int .i64 at_] 26) = W1 at B1 k1 G1 f1 ⊢
  generalize w1.heap.size = b1 at k1 ⊢
  go_loopw [5, 6] (fun en i wr => ∃ k e : Nat, k ≤ n ∧ i = .int .i64 k ∧ en = .int .i64 e ∧ e ≤ s.size ∧ TChain s e ((lexToks s).drop k) ∧ Below W1.heap.size W1 wr) (fun _ i _ => n - (intOf i).toNat)
  case atStart => exact ⟨0, 0, Nat.zero_le _, rfl, rfl, Nat.zero_le _, HCH.out, Below.refl _ _⟩
  case round =>
    obtain ⟨k, en, hk, rfl, rfl, hen, hch, hB⟩ := hrel
    by_cases hlt : k < n
    · obtain ⟨x, hx⟩ : ∃ x, (lexToks s)[k]? = some x := ⟨_, List.getElem?_eq_getElem (by have := HN1.out; omega)⟩
      have hd : (lexToks s).drop k = x :: (lexToks s).drop (k + 1) := by
        have hkl : k < (lexToks s).length := by have := HN1.out; omega
        rw [List.drop_eq_getElem_cons hkl]
        congr 1
        rw [List.getElem?_eq_getElem hkl] at hx; exact Option.some.inj hx
      rw [hd] at hch
      obtain ⟨g1, g2, g3, g4, g5⟩ := hch
      obtain ⟨b, o, rfl, hc⟩ := f1 wr hB k x hx
      have c0 : wr.cell? ⟨b, o + k * 3, none⟩ = some (.int .i64 x.k) := hc 0 _ rfl
      have c1 : wr.cell? ⟨b, o + k * 3 + 1, none⟩ = some (.string x.t) := hc 1 _ rfl
      have c2 : wr.cell? ⟨b, o + k * 3 + 2, none⟩ = some (.int .i64 x.p) := hc 2 _ rfl
      have HG : Hid (TChain s (x.p + x.t.size) ((lexToks s).drop (k + 1))) := g5
      have hk0 : (0 : Int) ≤ (k : Int) := by omega
      have hk1 : (k : Int) < (n : Int) := by omega
      have i1 : ¬ ((x.p : Nat) : Int) < (en : Int) := by omega
      have i2 : decide (x.p < en) = false := by simp; omega
      have i3 : x.t.toList.isEmpty = false := by simp [g2]
      have i4 : ((x.p : Nat) : Int) + ((x.t.size : Nat) : Int) ≤ (s.size : Int) := by omega
      have i4' : decide ((s.size : Int) < ((x.p : Nat) : Int) + ((x.t.size : Nat) : Int)) = false := by simp; omega
      have i5 : ((s.extract x.p (x.p + x.t.size)).toList == x.t.toList) = true := by simp [g4]
      have i6 : (0 : Int) ≤ ((x.p : Nat) : Int) := by omega
      have i7 : ((x.p : Nat) : Int) ≤ ((x.p : Nat) : Int) + ((x.t.size : Nat) : Int) := by omega
      have hsz := hB.size
      clear hc hx hd g1 g2 g5 f1
      generalize x.k = xk at c0 ⊢
      generalize x.t = xt at *
      generalize x.p = xp at *
      go_wp2_with fail
      go_quiet (fail)
      go_wp2_with fail
      go_roundw
      case rel => exact ⟨k + 1, xp + xt.size, by omega, by go_num, by go_num, by omega, HG.out, below_drawn (hB.alloc hsz _) _⟩
      case measure => simp [intOf]; omega
    · have hke : k = n := by omega
      subst hke
      obtain ⟨a0, a1, -, -⟩ := two_cells (k1.below hB)
      have G2 := G1.below hB
      have B2 := below_next B1 hB
      clear f1 hch hB
      by_cases hz : lexEr s = 0
      · have er0 : er = 0 := by rw [HE.out, hz]; rfl
        subst er0
        clear hz
        go_wp2_with fail
        refine (live_any _ G2).mono ?_
        rintro e w5 ⟨rfl, hb5⟩
        go_wp2_with fail
        go_ret
        exact ⟨rfl, below_next B2 hb5⟩
      · have hne : (er == 0) = false := by rw [beq_eq_false_iff_ne, HE.out]; omega
        have hat := lexAt_lt hz
        have i1 : (-1 : Int) ≤ at_ := by rw [HA.out]; omega
        have i2 : at_ < (s.size : Int) := by rw [HA.out]; omega
        clear hz hat
        go_wp2_with fail
        refine (live_any _ G2).mono ?_
        rintro e w5 ⟨rfl, hb5⟩
        go_wp2_with fail
        go_ret
        exact ⟨rfl, below_next B2 hb5⟩
end Go.Proofs.YthnofhobhkcpfaaDoor
