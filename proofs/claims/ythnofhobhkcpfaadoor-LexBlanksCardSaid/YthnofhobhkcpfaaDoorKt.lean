/- The law LexLines: the walk. -/
import Derived.Test.YthnofhobhkcpfaaDoorKs
import Derived.Deep.QuietTactic
import Derived.BigQuiet
namespace Go.Proofs.YthnofhobhkcpfaaDoor
open Go.RowKit Go.Shelf

def shT (n : Nat) (x : Tok) : Tok := ⟨x.k, x.t, x.p + n⟩
theorem lexR_le (s : Lx.Bs) : ∀ x ∈ (Lx.lexS s).1, x.m ≤ s.length := by
  have h : ∀ (l : List Lx.R) (e : Nat), Lx.Chain s e l → ∀ x ∈ l, x.m ≤ s.length := by
    intro l
    induction l with
    | nil => intro e _ x hx; simp at hx
    | cons y l ih =>
      intro e h x hx
      obtain ⟨_, h2, _, _, h5⟩ := h
      simp only [List.mem_cons] at hx
      rcases hx with rfl | hx
      · exact h2
      · exact ih _ h5 x hx
  exact h _ _ (Lx.lexS_chain s s (List.suffix_refl _)).1
theorem toks_sh (N M n d : Nat) (l : List Lx.R) (h : ∀ x ∈ l, x.m ≤ M) (e : N = M + n + d) : toks N (l.map (Lx.sh n)) = (toks M l).map (shT d) := by
  unfold toks
  rw [List.map_map, List.map_map]
  refine List.map_congr_left fun x hx => ?_
  have := h x hx
  have e1 : N - (x.m + n) = M - x.m + d := by omega
  show (⟨x.k, _, N - (x.m + n)⟩ : Tok) = ⟨x.k, _, M - x.m + d⟩
  rw [e1]; rfl
theorem toks_map0 (l : List Tok) : l.map (shT 0) = l := by
  have : l.map (shT 0) = l.map id := List.map_congr_left fun x _ => rfl
  rw [this, List.map_id]

/-- Two texts, a line's end between them. -/
structure LinesOf (a b j : ByteArray) : Prop where
  list : j.data.toList = a.data.toList ++ 10 :: b.data.toList
theorem LinesOf.size {a b j : ByteArray} (h : LinesOf a b j) : j.size = a.size + b.size + 1 := by
  rw [← size_toList, h.list]; simp; omega
theorem lines_first {a b j : ByteArray} (h : LinesOf a b j) (hz : lexEr a ≠ 0) : lexEr j = lexEr a ∧ lexAt j = lexAt a := by
  obtain ⟨c, m, h1, h2, h3, _⟩ := lexEr_some hz
  have hl : (Lx.lexS j.data.toList).2 = some (c, m + (b.size + 1)) := by
    rw [h.list, Lx.lexS_line]
    unfold Lx.glue
    rw [h1, size_toList]
  have hn : lexEr j ≠ 0 := by
    rw [h2] at hz
    unfold lexEr; rw [hl]; exact hz
  obtain ⟨c', m', g1, g2, g3, _⟩ := lexEr_some hn
  rw [hl] at g1
  simp only [Option.some.injEq, Prod.mk.injEq] at g1
  obtain ⟨rfl, rfl⟩ := g1
  have := h.size
  exact ⟨by rw [g2, h2], by rw [g3, h3]; omega⟩
theorem lines_second {a b j : ByteArray} (h : LinesOf a b j) (hz : lexEr a = 0) (hzb : lexEr b ≠ 0) : lexEr j = lexEr b ∧ lexAt j = lexAt b + (a.size + 1) := by
  obtain ⟨h0, _, _⟩ := lexEr_zero hz
  obtain ⟨c, m, h1, h2, h3, _⟩ := lexEr_some hzb
  have hm := (Lx.lexS_chain b.data.toList b.data.toList (List.suffix_refl _)).2 c m h1
  rw [size_toList] at hm
  have hl : (Lx.lexS j.data.toList).2 = some (c, m) := by
    rw [h.list, Lx.lexS_line]
    unfold Lx.glue
    rw [h0, h1]
  have hn : lexEr j ≠ 0 := by
    rw [h2] at hzb
    unfold lexEr; rw [hl]; exact hzb
  obtain ⟨c', m', g1, g2, g3, _⟩ := lexEr_some hn
  rw [hl] at g1
  simp only [Option.some.injEq, Prod.mk.injEq] at g1
  obtain ⟨rfl, rfl⟩ := g1
  have := h.size
  exact ⟨by rw [g2, h2], by rw [g3, h3]; omega⟩
theorem lines_both {a b j : ByteArray} (h : LinesOf a b j) (hz : lexEr a = 0) (hzb : lexEr b = 0) : lexToks j = lexToks a ++ (lexToks b).map (shT (a.size + 1)) := by
  obtain ⟨h0, ha, _⟩ := lexEr_zero hz
  obtain ⟨h1, hb, _⟩ := lexEr_zero hzb
  have hl : Lx.lexS j.data.toList = ((Lx.lexS a.data.toList).1.map (Lx.sh (b.size + 1)) ++ (Lx.lexS b.data.toList).1, none) := by
    rw [h.list, Lx.lexS_line]
    unfold Lx.glue
    rw [h0, h1, size_toList]
  have hn : lexEr j = 0 := lexEr_of_none (by rw [hl])
  rw [(lexEr_zero hn).2.1, hl, ha, hb]
  have hs := h.size
  have la := lexR_le a.data.toList
  have lb := lexR_le b.data.toList
  rw [size_toList] at la lb
  have e1 : toks j.size ((Lx.lexS a.data.toList).1.map (Lx.sh (b.size + 1))) = toks a.size (Lx.lexS a.data.toList).1 := by
    rw [toks_sh j.size a.size (b.size + 1) 0 _ la (by omega), toks_map0]
  have e2 : toks j.size (Lx.lexS b.data.toList).1 = (toks b.size (Lx.lexS b.data.toList).1).map (shT (a.size + 1)) := by
    have := toks_sh j.size b.size 0 (a.size + 1) _ lb (by omega)
    have h0 : (Lx.lexS b.data.toList).1.map (Lx.sh 0) = (Lx.lexS b.data.toList).1.map id := List.map_congr_left fun x _ => rfl
    rw [← this, h0, List.map_id]
  show toks j.size (_ ++ _) = _
  unfold toks at e1 e2 ⊢
  rw [List.map_append, e1, e2]

theorem Sl.take {α : Type} {enc : α → List Value} {k : Nat} {w : World} {a : Option Addr} {c m : Nat} {l : List α} (h : Sl enc k w (.slice a l.length c) l) (hm : m ≤ l.length) : Sl enc k w (.slice a m c) (l.take m) := by
  rcases h with ⟨h1, h2⟩ | ⟨b, o, c', h1, h2, h3, h4⟩
  · subst h2
    simp at h1 hm
    obtain ⟨rfl, rfl⟩ := h1
    subst hm
    exact Or.inl ⟨rfl, rfl⟩
  · simp only [Value.slice.injEq, true_and] at h1
    obtain ⟨rfl, rfl⟩ := h1
    refine Or.inr ⟨b, o, c, ?_, ?_, h3, fun i x hi j u hu => ?_⟩
    · rw [List.length_take, Nat.min_eq_left hm]
    · rw [List.length_take]; omega
    · rw [List.getElem?_take] at hi
      split at hi
      · exact h4 i x hi j u hu
      · cases hi

set_option maxRecDepth 100000 in
set_option maxHeartbeats 4000000 in
theorem lines_any (a b : ByteArray) (w : World) (G : Gl w) : Calls Tryd.prog 6 #[.string a, .string b] w fun e w' => e = .returned (.bool true) ∧ Below w.heap.size w w' := by
  by_cases hs : 500 < a.size
  · go_enter Tryd.func6, Tryd.ntmps6
    go_wp2_with fail
    refine (live_any w G).mono ?_
    rintro e w1 ⟨rfl, hb1⟩
    go_wp2_with fail
    go_ret
    exact ⟨rfl, hb1⟩
  by_cases hs2 : 500 < b.size
  · have hs1 : a.size ≤ 500 := by omega
    clear hs
    go_enter Tryd.func6, Tryd.ntmps6
    go_wp2_with fail
    refine (live_any w G).mono ?_
    rintro e w1 ⟨rfl, hb1⟩
    go_wp2_with fail
    go_ret
    exact ⟨rfl, hb1⟩
  have hsa : a.size ≤ 500 := by omega
  have hsb : b.size ≤ 500 := by omega
  clear hs hs2
  go_enter Tryd.func6, Tryd.ntmps6
  go_wp2_with fail
  refine (Lex_res a (by omega) w G).mono ?_
  rintro e w1 ⟨v, er, at_, rfl, hb1, s1, her, hat⟩
  have nb1 := (Below.refl w1.heap.size w1).alloc (Nat.le_refl _) (.cells #[.int .i64 er, .int .i64 at_] 26)
  have B1 := below_next hb1 nb1
  have k1 := Blk.new w1 #[.int .i64 er, .int .i64 at_] 26
  have s1 := s1.below nb1
  have G1 := (G.below hb1).below nb1
  have HE : Hid (er = (lexEr a : Nat) ∧ at_ = (lexAt a : Nat)) := ⟨her, hat⟩
  clear hb1 nb1 G her hat
  go_wp2_with fail
  generalize w1.alloc (.cells #[.int .i64 er, .int .i64 at_] 26) = W1 at B1 k1 s1 G1 ⊢
  generalize w1.heap.size = b1 at k1 ⊢
  refine (Lex_res b (by omega) W1 G1).mono ?_
  rintro e w2 ⟨v2, er2, at2, rfl, hb2, s2, her, hat⟩
  have nb2 := (Below.refl w2.heap.size w2).alloc (Nat.le_refl _) (.cells #[.int .i64 er2, .int .i64 at2] 26)
  have B2 := below_next (below_next B1 hb2) nb2
  have k1 := (k1.below hb2).below nb2
  have k2 := Blk.new w2 #[.int .i64 er2, .int .i64 at2] 26
  have s1 := (s1.below hb2).below nb2
  have s2 := s2.below nb2
  have G2 := (G1.below hb2).below nb2
  have HE2 : Hid (er2 = (lexEr b : Nat) ∧ at2 = (lexAt b : Nat)) := ⟨her, hat⟩
  clear hb2 nb2 G1 B1 her hat
  go_wp2_with fail
  generalize w2.alloc (.cells #[.int .i64 er2, .int .i64 at2] 26) = W2 at B2 k1 k2 s1 s2 G2 ⊢
  generalize w2.heap.size = b2 at k2 ⊢
  obtain ⟨j, hj⟩ : ∃ j : ByteArray, j = a ++ (⟨#[10]⟩ : ByteArray) ++ b := ⟨_, rfl⟩
  have L : LinesOf a b j := ⟨by rw [hj, concat_list, concat_list]; simp⟩
  have hjs := L.size
  rw [← hj]
  clear hj
  refine (Lex_res j (by omega) W2 G2).mono ?_
  rintro e w3 ⟨v3, er3, at3, rfl, hb3, s3, her, hat⟩
  have nb3 := (Below.refl w3.heap.size w3).alloc (Nat.le_refl _) (.cells #[.int .i64 er3, .int .i64 at3] 26)
  have B3 := below_next (below_next B2 hb3) nb3
  have k1 := (k1.below hb3).below nb3
  have k2 := (k2.below hb3).below nb3
  have k3 := Blk.new w3 #[.int .i64 er3, .int .i64 at3] 26
  have s1 := (s1.below hb3).below nb3
  have s2 := (s2.below hb3).below nb3
  have s3 := s3.below nb3
  have G3 := (G2.below hb3).below nb3
  have HE3 : Hid (er3 = (lexEr j : Nat) ∧ at3 = (lexAt j : Nat)) := ⟨her, hat⟩
  clear hb3 nb3 G2 B2 her hat
  obtain ⟨a0, a1, -, -⟩ := two_cells k1
  obtain ⟨c0, c1, -, -⟩ := two_cells k2
  by_cases hz : lexEr a = 0
  · have er0 : er = 0 := by rw [HE.out.1, hz]; rfl
    subst er0
    by_cases hzb : lexEr b = 0
    · have er0 : er2 = 0 := by rw [HE2.out.1, hzb]; rfl
      subst er0
      have HJ : Hid (lexToks j = lexToks a ++ (lexToks b).map (shT (a.size + 1))) := lines_both L hz hzb
      have hn3 : er3 = 0 := by
        rw [HE3.out.1]
        by_cases hzj : lexEr j = 0
        · rw [hzj]; rfl
        · obtain ⟨_, _, g1, _⟩ := lexEr_some hzj
          obtain ⟨h0, _, _⟩ := lexEr_zero hz
          obtain ⟨h1, _, _⟩ := lexEr_zero hzb
          rw [L.list, Lx.lexS_line] at g1
          unfold Lx.glue at g1
          rw [h0, h1] at g1; cases g1
      subst hn3
      obtain ⟨p1, q1, rfl, hl1, f1⟩ := s1.form
      obtain ⟨p2, q2, rfl, hl2, f2⟩ := s2.form
      obtain ⟨p3, q3, rfl, hl3, f3⟩ := s3.form
      obtain ⟨na, hna⟩ : ∃ n, n = (lexToks a).length := ⟨_, rfl⟩
      obtain ⟨nb, hnb⟩ : ∃ n, n = (lexToks b).length := ⟨_, rfl⟩
      have hnj : na + nb = (lexToks j).length := by rw [HJ.out, List.length_append, List.length_map, hna, hnb]
      have st := Sl.take s3 (m := na) (by omega)
      have hcj := lexToks_len j
      have hca := lexToks_len a
      rw [HJ.out, hna, List.take_left] at st
      rw [← hna] at st
      rw [← hna] at hl1 hca s1 ⊢
      rw [← hnb] at hl2 ⊢
      obtain ⟨nj, hnj2⟩ : ∃ n, n = na + nb := ⟨_, rfl⟩
      rw [← hnj2] at hnj
      rw [← hnj] at hl3 hcj ⊢
      have HNA : Hid (na = (lexToks a).length) := hna
      have HNB : Hid (nb = (lexToks b).length) := hnb
      have i0 : ((na : Nat) : Int) + ((nb : Nat) : Int) = ((nj : Nat) : Int) := by omega
      have i1 : ((na : Nat) : Int) ≤ ((nj : Nat) : Int) := by omega
      have i2 : ((nj : Nat) : Int) ≤ ((q3 : Nat) : Int) := by omega
      have HNJ : Hid (nj = na + nb) := hnj2
      clear hna hnb hnj hnj2 hz hzb HE HE2 HE3 s2 s3 f1 L a1 c1
      go_wp2_with fail
      generalize w3.alloc (.cells #[.int .i64 0, .int .i64 at3] 26) = W3 at *
      refine (rSame_any W3 _ _ (lexToks a) (lexToks a) st s1 (by have := HNA.out; omega)).mono ?_
      rintro e w4 ⟨rfl, hb4⟩
      rw [show toksEq (lexToks a) (lexToks a) = true from toksEq_iff.2 rfl]
      have B4 := below_next B3 hb4
      have G4 := G3.below hb4
      have HB4 : Hid (Below W3.heap.size W3 w4) := hb4
      clear hb4 B3 G3 k1 k2 k3 a0 c0 st s1 i0
      go_wp2_with fail
      generalize w3.heap.size = b3
      go_loopw [11] (fun i wr => ∃ k : Nat, k ≤ nb ∧ i = .int .i64 k ∧ Below w4.heap.size w4 wr) (fun i _ => nb - (intOf i).toNat)
      case atStart => exact ⟨0, Nat.zero_le _, rfl, Below.refl _ _⟩
      case round =>
        obtain ⟨k, hk, rfl, hB⟩ := hrel
        by_cases hlt : k < nb
        · obtain ⟨x, hx⟩ : ∃ x, (lexToks b)[k]? = some x := ⟨_, List.getElem?_eq_getElem (by have := HNB.out; omega)⟩
          have hy : (lexToks j)[na + k]? = some (shT (a.size + 1) x) := by
            rw [HJ.out, HNA.out, List.getElem?_append_right (by omega), Nat.add_sub_cancel_left, List.getElem?_map, hx]; rfl
          have hBW := below_next HB4.out hB
          obtain ⟨b1, o1, rfl, hc⟩ := f3 wr hBW (na + k) _ hy
          obtain ⟨b2, o2, rfl, hd⟩ := f2 _ (hBW.alloc hBW.size (.cells #[.int .i64 x.k, .string x.t, .int .i64 x.p] 33)) k x hx
          obtain ⟨nk, hnk⟩ : ∃ q, q = na + k := ⟨_, rfl⟩
          rw [← hnk] at hc
          obtain ⟨xp, hxp⟩ : ∃ q, q = x.p + (a.size + 1) := ⟨_, rfl⟩
          have c0 : wr.cell? ⟨b1, o1 + nk * 3, none⟩ = some (.int .i64 x.k) := hc 0 _ rfl
          have c1 : wr.cell? ⟨b1, o1 + nk * 3 + 1, none⟩ = some (.string x.t) := hc 1 _ rfl
          have c2 : wr.cell? ⟨b1, o1 + nk * 3 + 2, none⟩ = some (.int .i64 xp) := by rw [hxp]; exact hc 2 _ rfl
          have d0 : (wr.alloc (.cells #[.int .i64 x.k, .string x.t, .int .i64 x.p] 33)).cell? ⟨b2, o2 + k * 3, none⟩ = some (.int .i64 x.k) := hd 0 _ rfl
          have d1 : (wr.alloc (.cells #[.int .i64 x.k, .string x.t, .int .i64 x.p] 33)).cell? ⟨b2, o2 + k * 3 + 1, none⟩ = some (.string x.t) := hd 1 _ rfl
          have d2 : (wr.alloc (.cells #[.int .i64 x.k, .string x.t, .int .i64 x.p] 33)).cell? ⟨b2, o2 + k * 3 + 2, none⟩ = some (.int .i64 x.p) := hd 2 _ rfl
          have hq : ∀ W, (Op.equalIn 10000 33 (.agg #[.int .i64 x.k, .string x.t, .int .i64 x.p]) (.agg #[.int .i64 x.k, .string x.t, .int .i64 x.p])).run Tryd.prog W = .ok true W := fun W => by
            have := eqTok x x W
            rw [tokEq_iff.2 rfl] at this; exact this
          have hpa : x.p ≤ 1000000000 := by
            have h1 := lexToks_chain b
            have h2 : ∀ (l : List Tok) (e : Nat), TChain b e l → ∀ y ∈ l, y.p ≤ b.size := by
              intro l
              induction l with
              | nil => intro e _ y hy; simp at hy
              | cons z l ih =>
                intro e h y hy
                obtain ⟨_, _, h3, _, h5⟩ := h
                simp only [List.mem_cons] at hy
                rcases hy with rfl | hy
                · omega
                · exact ih _ h5 y hy
            have := h2 _ _ h1 x (List.mem_of_getElem? hx); omega
          obtain ⟨xm, hxm⟩ : ∃ q : Nat, q = x.p + 1 := ⟨_, rfl⟩
          have i3 : ((na : Nat) : Int) + ((k : Nat) : Int) = ((nk : Nat) : Int) := by omega
          have i4 : ((xp : Nat) : Int) - ((a.size : Nat) : Int) = ((xm : Nat) : Int) := by omega
          have i5 : ((xm : Nat) : Int) - 1 = ((x.p : Nat) : Int) := by omega
          have i6 : ((nk : Nat) : Int) < ((nj : Nat) : Int) := by have := HNJ.out; omega
          have i7 : (0 : Int) ≤ ((nk : Nat) : Int) := by omega
          have hk0 : (0 : Int) ≤ (k : Int) := by omega
          have hk1 : (k : Int) < (nb : Int) := by omega
          have hsz := hB.size
          clear hc hd hx hy hnk hxp hxm f2 f3 hBW
          go_wp2_with fail
          go_quiet (fail)
          go_wp2_with fail
          go_roundw
          case rel => exact ⟨k + 1, by omega, by go_num, below_drawn (hB.alloc hsz _) _⟩
          case measure => simp [intOf]; omega
        · have hke : k = nb := by omega
          subst hke
          have B5 := below_next B4 hB
          have G5 := G4.below hB
          clear f2 f3
          go_wp2_with fail
          refine (live_any _ G5).mono ?_
          rintro e w9 ⟨rfl, hb9⟩
          go_wp2_with fail
          go_ret
          exact ⟨rfl, below_next B5 hb9⟩
    · obtain ⟨q1, q2⟩ := lines_second L hz hzb
      have e1 : er3 = er2 := by rw [HE3.out.1, HE2.out.1, q1]
      have e2 : at3 = at2 + (a.size : Int) + 1 := by rw [HE3.out.2, HE2.out.2, q2]; omega
      have hne : (er2 != 0) = true := by rw [bne_iff_ne, HE2.out.1]; omega
      obtain ⟨t3, ht3⟩ : ∃ t3, t3 = at2 + (a.size : Int) + 1 := ⟨_, rfl⟩
      have hle : 0 ≤ at2 := by rw [HE2.out.2]; omega
      have hle2 : at2 ≤ 1000 := by rw [HE2.out.2]; have := lexAt_lt hzb; omega
      subst e1
      subst e2
      have hq : ∀ W, (Op.equalIn 10000 26 (.agg #[.int .i64 er3, .int .i64 (at2 + (a.size : Int) + 1)]) (.agg #[.int .i64 er3, .int .i64 (at2 + (a.size : Int) + 1)])).run Tryd.prog W = .ok true W := fun W => by rw [eqFault]; simp
      clear ht3 HE HE2 HE3 q1 q2 hz hzb s1 s2 s3
      go_wp2_with fail
      refine (live_any _ G3).mono ?_
      rintro e w9 ⟨rfl, hb9⟩
      go_wp2_with fail
      go_ret
      exact ⟨rfl, below_next B3 hb9⟩
  · obtain ⟨q1, q2⟩ := lines_first L hz
    have e1 : er3 = er := by rw [HE3.out.1, HE.out.1, q1]
    have e2 : at3 = at_ := by rw [HE3.out.2, HE.out.2, q2]
    have hne : (er != 0) = true := by rw [bne_iff_ne, HE.out.1]; omega
    subst e1
    subst e2
    have hq : ∀ W, (Op.equalIn 10000 26 (.agg #[.int .i64 er3, .int .i64 at3]) (.agg #[.int .i64 er3, .int .i64 at3])).run Tryd.prog W = .ok true W := fun W => by rw [eqFault]; simp
    clear HE HE2 HE3 q1 q2 hz s1 s2 s3
    go_wp2_with fail
    refine (live_any _ G3).mono ?_
    rintro e w9 ⟨rfl, hb9⟩
    go_wp2_with fail
    go_ret
    exact ⟨rfl, below_next B3 hb9⟩
end Go.Proofs.YthnofhobhkcpfaaDoor
