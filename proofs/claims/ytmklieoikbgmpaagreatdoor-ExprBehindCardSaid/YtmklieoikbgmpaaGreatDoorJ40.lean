/- The law ExprBehind, whatever its arguments: the walk. -/
import Derived.Deep.RegionHeld3
import Derived.Deep.RegionLawGrows
import Derived.Test.YtmklieoikbgmpaaGreatDoorJ39
set_option linter.unusedVariables false
set_option linter.unusedSimpArgs false
namespace Go.Proofs.YtmklieoikbgmpaaGreatDoor
open Go.RowKit Go.Shelf Tx Px
def endW : List ByteArray := [⟨#[59]⟩, ⟨#[41]⟩, ⟨#[116, 104, 101, 110]⟩, ⟨#[116, 101, 108]⟩, ⟨#[44]⟩]
theorem behind_S {s : ByteArray} {F : Fo} (h : RdS s (.ok F)) {t : Tok} (ht : t.t ∈ endW) : ParR (toks s.size (Lx.lexS s.data.toList).1 ++ [t]) 0 (.ok (F, (toks s.size (Lx.lexS s.data.toList).1).length)) := by
  refine behind_par (toks_is s) h.okE.2 ?_
  simp only [endW, List.mem_cons, List.not_mem_nil, or_false] at ht
  rcases ht with h | h | h | h | h
  · exact Or.inr (Or.inl h)
  · exact Or.inl h
  · exact Or.inr (Or.inr (Or.inr (Or.inl h)))
  · exact Or.inr (Or.inr (Or.inr (Or.inr h)))
  · exact Or.inr (Or.inr (Or.inl h))
theorem wpList_appm {P : Program} {w : World} {ops : Array Oper} {rest : List Oper} {o : Oper} {a : Act} {Q : Exit → Act → World → Prop} {t e size bytes : Nat} (R : RowTy P t e size bytes) (hgd : o.guard = none) (s x : Operand)
    (ho : o.op = .call { callee := .builtin .append, args := #[s, x], argTypes := #[t, t] })
    (base : Nat) (v : Value) (n : Nat) (xs : List Value) (hs : a.eval s = v) (hown : w.ownsRow base e size v n xs)
    (ad : Addr) (m c : Nat) (news : List Value) (hx : a.eval x = .slice (some ad) m c) (hm0 : 0 < m) (hl : news.length = m * size) (hnews : ∀ j u, news[j]? = some u → w.cell? (ad.add j) = some u) (h1 : ∀ u ∈ news, u.oneCell' = true)
    (hn : (n + m) * (bytes + 1) ≤ 140737488355328) (hbase : base ≤ w.heap.size) (H : Nat) (hH : w.heap.size = H)
    (h : ∀ g cap w', w'.ownsRow base e size (.slice (some ⟨g, 0, none⟩) (n + m) cap) (n + m) (xs ++ news) → w.grownBy w' v.ownBlock → (v.ownBlock = some g ∨ g = H) → g < w'.heap.size → wpList P ops Q rest (a.put o.dst (.slice (some ⟨g, 0, none⟩) (n + m) cap)) w') : wpList P ops Q (o :: rest) a w := by
  obtain ⟨i, z, hi, hz, hsize, hby, hzs⟩ := R.ex
  have hb : (n + m) * bytes ≤ 140737488355328 := Nat.le_trans (Nat.mul_le_mul_left _ (by omega)) hn
  have hm : n + m ≤ maxLen := by
    have : (n + m) * 1 ≤ (n + m) * (bytes + 1) := Nat.mul_le_mul_left _ (by omega)
    unfold maxLen; omega
  exact wpList_append_lies w hgd s x t ho base e i z size bytes R.ht hi hz hsize hby hzs R.pos v n xs hs hown ad m c news hx hl hnews h1 hm0 hm hb hbase H hH h
theorem step_appE {P : Program} {w : World} {ops : Array Oper} {o : Oper} {a : Act} {K : Act → World → Prop} {Q : Exit → Act → World → Prop} {E : Prop} {t e size bytes : Nat} (R : RowTy P t e size bytes) (hgd : o.guard = none) (s x : Operand)
    (ho : o.op = .call { callee := .builtin .append, args := #[s, x], argTypes := #[t, t] })
    (base : Nat) (v : Value) (n : Nat) (xs : List Value) (hs : a.eval s = v) (hown : w.ownsRow base e size v n xs)
    (ad : Addr) (c : Nat) (news : List Value) (hx : a.eval x = .slice (some ad) 1 c) (hl : news.length = size) (hnews : ∀ j u, news[j]? = some u → w.cell? (ad.add j) = some u) (h1 : ∀ u ∈ news, u.oneCell' = true)
    (hn : (n + 1) * (bytes + 1) ≤ 140737488355328) (hbase : base ≤ w.heap.size) (H : Nat) (hH : w.heap.size = H)
    (h : ∀ g cap w', w'.ownsRow base e size (.slice (some ⟨g, 0, none⟩) (n + 1) cap) (n + 1) (xs ++ news) → w.grownBy w' v.ownBlock → (v.ownBlock = some g ∨ g = H) → g < w'.heap.size → K (a.put o.dst (.slice (some ⟨g, 0, none⟩) (n + 1) cap)) w') :
    if Region.wanted o (yielded ops a.tmps) = true then Oper.wp P o a w K Q else E := by
  obtain ⟨i, z, hi, hz, hsize, hby, hzs⟩ := R.ex
  have hb : (n + 1) * bytes ≤ 140737488355328 := Nat.le_trans (Nat.mul_le_mul_left _ (by omega)) hn
  have hm : n + 1 ≤ maxLen := by
    have : (n + 1) * 1 ≤ (n + 1) * (bytes + 1) := Nat.mul_le_mul_left _ (by omega)
    unfold maxLen; omega
  exact step_append_lies _ hgd s x t ho base e i z size bytes R.ht hi hz hsize hby hzs R.pos v n xs hs hown ad 1 c news hx (by rw [hl]; omega) hnews h1 (by omega) hm hb hbase H hH h
theorem wp_letE {P : Program} {c : Code} {Q : Exit → Act → World → Prop} {a : Act} {w : World} (h : ∀ W, W = w → Code.wp P c Q a W) : Code.wp P c Q a w := h w rfl
def kindN (s : ByteArray) : Nat := if Lx.isWord s.data.toList then 3 else 4
theorem kindN_or (s : ByteArray) : kindN s = 3 ∨ kindN s = 4 := by unfold kindN; split <;> simp
set_option maxRecDepth 100000 in
theorem kind_any (s : ByteArray) (w : World) : Calls Tryz.prog 16 #[.string s] w fun e w' => e = .returned (.int .i64 (kindN s : Nat)) ∧ Below w.heap.size w w' := by
  have hi := rIsWord_any s w
  obtain ⟨b, hb⟩ : ∃ b, b = Lx.isWord s.data.toList := ⟨_, rfl⟩
  have HK : Hid (kindN s = if b then 3 else 4) := by show _ = _; unfold kindN; rw [← hb]
  rw [← hb] at hi
  clear hb
  cases b
  all_goals
    go_enter Tryz.func16, Tryz.ntmps16
    go_wp2_with fail
    refine hi.mono ?_
    rintro e w1 ⟨rfl, hb1⟩
    have HB := Lib.hid hb1
    clear hi hb1
    go_wp2_with fail
    go_ret
    exact ⟨by rw [HK.out]; rfl, HB.out⟩
theorem flat_of {α : Type} {enc : α → List Value} {k : Nat} (hk : ∀ x, (enc x).length = k) : ∀ (l : List α) (j : Nat) (u : Value), (l.flatMap enc)[j]? = some u → ∃ i x m, l[i]? = some x ∧ (enc x)[m]? = some u ∧ j = i * k + m
  | [], j, u, h => by simp at h
  | y :: r, j, u, h => by
    rw [List.flatMap_cons] at h
    by_cases hj : j < (enc y).length
    · rw [List.getElem?_append_left hj] at h; exact ⟨0, y, j, rfl, h, by omega⟩
    · rw [List.getElem?_append_right (by omega), hk] at h
      obtain ⟨i, x, m, h1, h2, h3⟩ := flat_of hk r _ u h
      rw [hk] at hj
      exact ⟨i + 1, x, m, h1, h2, by rw [Nat.add_mul]; omega⟩
theorem endW_at {q : Nat} (h : q < 5) : ∃ s, endW[q]? = some s ∧ s ∈ endW := ⟨_, List.getElem?_eq_getElem (by exact h), List.getElem_mem _⟩
set_option maxRecDepth 100000 in
set_option maxHeartbeats 8000000 in
theorem exprBehind_any (s : ByteArray) (hs : s.size ≤ maxLen) (wh : Int) (w : World) (G : Gl w) :
    Calls Tryz.prog 4 #[.string s, .int .i64 wh] w fun e w' => e = .returned (.bool true) ∧ Below w.heap.size w w' := by
  have hlive := fun W (hW : Below w.heap.size w W) => live04_any W (G.below hW)
  unfold maxLen at hs
  by_cases hbig : 1000 < s.size
  · have hl := hlive w (Below.refl _ _)
    have hb1 : (1000 : Int) < (s.size : Int) := by omega
    clear hlive G
    go_enter Tryz.func4, Tryz.ntmps4
    go_wp2_with fail
    refine hl.mono ?_
    rintro e w1 ⟨rfl, hb⟩
    have HB := Lib.hid hb
    clear hl hb
    go_wp2_with fail
    go_ret
    exact ⟨rfl, HB.out⟩
  · have hb1 : ¬ (1000 : Int) < (s.size : Int) := by omega
    obtain ⟨r, hr⟩ := RdS.all s
    have hrd := pRead_any s (by omega) r hr w G
    have hlex := fun W => rLex_any s (by omega) W
    have HLV := Lib.hid hlive
    have HR := Lib.hid hr
    have HLX := Lib.hid hlex
    have HSZ : Hid (s.size ≤ 1000) := by show _ ≤ _; omega
    clear hlive G hr hlex
    go_enter Tryz.func4, Tryz.ntmps4
    go_wp2_with fail
    refine hrd.mono ?_
    rintro e w1 ⟨hb1', hpost⟩
    match r, hpost with
    | .error (c, p), ⟨hc, he⟩ =>
      subst he
      have hc0 : (c != 0) = true := by simp [hc]
      obtain ⟨W1, hW1⟩ : ∃ W1, W1 = w1.alloc (.cells #[.int .i64 c, .int .i64 p] 27) := ⟨_, rfl⟩
      have b1 : Below w1.heap.size w1 W1 := by rw [hW1]; exact (Below.refl _ _).alloc (Nat.le_refl _) _
      have F1 : Hid (Blk W1 w1.heap.size #[.int .i64 c, .int .i64 p] 27) := by show Blk _ _ _ _; rw [hW1]; exact Blk.new w1 _ _
      have B1 : Hid (Below w.heap.size w W1) := below_next hb1' b1
      have HW1 := Lib.hid hW1
      clear hrd hb1' b1 hc hpost hW1
      go_wp2_with fail
      rw [← HW1.out]
      refine (HLX.out W1).mono ?_
      rintro e w2 ⟨v, er, at_, rfl, hb2, hcase⟩
      have hform : ∃ a n k, v = .slice a n k := by
        rcases hcase with ⟨_, _, _, hown⟩ | ⟨_, _, _, _, _, _, rfl⟩
        · obtain ⟨a, k, rfl, -⟩ := (Sl.own tokC_len hown (by simp [toks])).form; exact ⟨_, _, _, rfl⟩
        · exact ⟨_, _, _, rfl⟩
      obtain ⟨a, n, k, rfl⟩ := hform
      have F2 := F1.out.below hb2
      obtain ⟨W2, hW2⟩ : ∃ W2, W2 = w2.alloc (.cells #[.int .i64 er, .int .i64 at_] 27) := ⟨_, rfl⟩
      have b2 : Below w2.heap.size w2 W2 := by rw [hW2]; exact (Below.refl _ _).alloc (Nat.le_refl _) _
      have B2 : Hid (Below w.heap.size w W2) := below_next B1.out (below_next hb2 b2)
      obtain ⟨u0, u1, -, -⟩ := two_cells (F2.below b2)
      have hl2 := HLV.out W2 B2.out
      clear hcase F2 b2 hb2 HW1
      subst hW2
      go_wp2_with fail
      refine hl2.mono ?_
      rintro e w5 ⟨rfl, hb5⟩
      have HB5 := Lib.hid (below_next B2.out hb5)
      clear hl2 hb5
      go_wp2_with fail
      go_ret
      exact ⟨rfl, HB5.out⟩
    | .ok F, ⟨v, he, ho⟩ =>
      cases he
      have HGD := Lib.hid HR.out.good
      have HSH := Lib.hid (short_S HR.out).1
      obtain ⟨va, vc, rfl, -⟩ := ho.form
      obtain ⟨fl, hfl⟩ : ∃ fl, fl = F.flat 0 := ⟨_, rfl⟩
      have hfs : fl.length ≤ 5000 := by rw [hfl, Fo.flat_len]; exact HGD.out.2.1
      rw [← hfl] at ho ⊢
      obtain ⟨fn, hfn⟩ : ∃ fn, fn = fl.length := ⟨_, rfl⟩
      rw [← hfn] at ho ⊢
      have HFL := Lib.hid hfl
      have HFS := Lib.hid hfs
      obtain ⟨W1, hW1⟩ : ∃ W1, W1 = w1.alloc (.cells #[.int .i64 0, .int .i64 0] 27) := ⟨_, rfl⟩
      have b1 : Below w1.heap.size w1 W1 := by rw [hW1]; exact (Below.refl _ _).alloc (Nat.le_refl _) _
      have F1 : Hid (Blk W1 w1.heap.size #[.int .i64 0, .int .i64 0] 27) := by show Blk _ _ _ _; rw [hW1]; exact Blk.new w1 _ _
      have B1 : Hid (Below w.heap.size w W1) := below_next hb1' b1
      have HO1 : Hid (IsE W1 (.slice va fn vc) fl) := Sl.below ho.isE b1
      have HW1 := Lib.hid hW1
      clear hrd hb1' b1 hpost hW1 ho hfl hfs hfn
      go_wp2_with fail
      rw [← HW1.out]
      refine (HLX.out W1).mono ?_
      rintro e w2 ⟨v, er, at_, rfl, hb2, hcase⟩
      have hln := HR.out.okE.1
      rcases hcase with ⟨rfl, rfl, hl, hown⟩ | ⟨k, m, hk, rfl, rfl, hl, rfl⟩
      · obtain ⟨L, hL⟩ : ∃ L, L = toks s.size (Lx.lexS s.data.toList).1 := ⟨_, rfl⟩
        have hsh := HSH.out
        have hLk := toks_is s
        have hLl := toks_len s
        rw [← hL] at hown hsh hLk hLl
        have hLlen : (Lx.lexS s.data.toList).1.length = L.length := by rw [hL]; simp [toks]
        rw [hLlen] at hown
        have hsl : Sl tokC 3 w2 v L := Sl.own tokC_len hown rfl
        obtain ⟨ta, tc, rfl, htc, hcell⟩ := hsl.form
        obtain ⟨n, hn⟩ : ∃ n, n = L.length := ⟨_, rfl⟩
        obtain ⟨W2, hW2⟩ : ∃ W2, W2 = w2.alloc (.cells #[.int .i64 0, .int .i64 0] 27) := ⟨_, rfl⟩
        have b2 : Below w2.heap.size w2 W2 := by rw [hW2]; exact (Below.refl _ _).alloc (Nat.le_refl _) _
        have F22 := Lib.hid ((F1.out.below hb2).below b2)
        have G2 : Hid (Blk W2 w2.heap.size #[.int .i64 0, .int .i64 0] 27) := by show Blk _ _ _ _; rw [hW2]; exact Blk.new w2 _ _
        have B2 : Hid (Below w.heap.size w W2) := below_next B1.out (below_next hb2 b2)
        have HO2 : Hid (IsE W2 (.slice va fn vc) fl) := Sl.below (Sl.below HO1.out hb2) b2
        obtain ⟨u0, u1, -, -⟩ := two_cells F22.out
        obtain ⟨v0, v1, -, -⟩ := two_cells G2.out
        obtain ⟨x0, hx0⟩ : ∃ x0, L[0]? = some x0 := ⟨_, List.getElem?_eq_getElem (by omega)⟩
        obtain ⟨tb, to_, rfl, -⟩ := hcell w2 (Below.refl _ _) 0 x0 hx0
        have HCELL : Hid (∀ W, Below W2.heap.size W2 W → ∀ j u, (L.flatMap tokC)[j]? = some u → W.cell? ((⟨tb, to_, none⟩ : Addr).add j) = some u) := fun W hW j u hu => by
          obtain ⟨i, x, m, h1, h2, rfl⟩ := flat_of tokC_len L j u hu
          obtain ⟨b, q, e, h3⟩ := hcell W (below_next b2 hW) i x h1
          cases e
          have hadd : (⟨tb, to_, none⟩ : Addr).add (i * 3 + m) = ⟨tb, to_ + (i * 3 + m), none⟩ := by unfold Addr.add; split <;> simp_all
          rw [hadd, ← Nat.add_assoc]; exact h3 m u h2
        rw [← hn] at hsh hLl htc ⊢
        have HN := Lib.hid hn
        have HLL : Hid (L = toks s.size (Lx.lexS s.data.toList).1) := hL
        have HLK := Lib.hid hLk
        have hn1 : n ≤ 1000 := by have := HSZ.out; omega
        have hw2 := hW2
        clear hL hLlen hown hsl hcell hn hW2 hLk hx0 b2 hb2 hl hln HW1
        by_cases hneg : wh < 0
        · have hl2 := HLV.out W2 B2.out
          subst hw2
          go_wp2_with fail
          refine hl2.mono ?_
          rintro e w5 ⟨rfl, hb5⟩
          have HB5 := Lib.hid (below_next B2.out hb5)
          clear hl2 hb5
          go_wp2_with fail
          go_ret
          exact ⟨rfl, HB5.out⟩
        · obtain ⟨N, rfl⟩ : ∃ N : Nat, wh = (N : Int) := ⟨wh.toNat, by omega⟩
          obtain ⟨q, hq⟩ : ∃ q, q = N % 5 := ⟨_, rfl⟩
          have hq5 : q < 5 := by omega
          have hrem : Int.tmod (N : Int) 5 = (q : Int) := by rw [hq, Int.tmod_eq_emod_of_nonneg (by omega)]; omega
          obtain ⟨t, htq, htm⟩ := endW_at hq5
          have hq0 : (0 : Int) ≤ (q : Int) := by omega
          have hq5i : (q : Int) < 5 := by omega
          have HTM := Lib.hid htm
          have HTQ := Lib.hid htq
          clear hq htq htm
          subst hw2
          go_upto_region 7 with fail
          refine wp_letE ?_
          intro W2 hW2
          have B2' : Hid (Below w.heap.size w W2) := by rw [hW2]; exact B2.out
          have HO2' : Hid (IsE W2 (.slice va fn vc) fl) := by rw [hW2]; exact HO2.out
          have HC2 : Hid (∀ W, Below W2.heap.size W2 W → ∀ j u, (L.flatMap tokC)[j]? = some u → W.cell? ((⟨tb, to_, none⟩ : Addr).add j) = some u) := by rw [hW2]; exact HCELL.out
          clear u0 u1 v0 v1 B2 HO2 HCELL F22 G2 hW2
          go_upto_region 8 with fail
          refine wp_letE ?_
          intro W3 hW3
          have b3 : Below W2.heap.size W2 W3 := by rw [hW3]; exact (Below.refl _ _).alloc (Nat.le_refl _) _
          have K3 : Blk W3 W2.heap.size #[.string ⟨#[59]⟩, .string ⟨#[41]⟩, .string ⟨#[116, 104, 101, 110]⟩, .string ⟨#[116, 101, 108]⟩, .string ⟨#[44]⟩] 9 := by rw [hW3]; exact Blk.new W2 _ _
          have HQ3 : Hid (∀ W, Below W3.heap.size W3 W → W.cell? ⟨W2.heap.size, q, none⟩ = some (.string t)) := fun W hW => by
            have h := K3.below hW
            have h2 := HTQ.out
            unfold Blk at h
            simp only [World.cell?, h]
            match q, hq5, h2 with
            | 0, _, h2 => cases h2; rfl
            | 1, _, h2 => cases h2; rfl
            | 2, _, h2 => cases h2; rfl
            | 3, _, h2 => cases h2; rfl
            | 4, _, h2 => cases h2; rfl
          have B3 : Hid (Below w.heap.size w W3) := below_next B2'.out b3
          have HO3 : Hid (IsE W3 (.slice va fn vc) fl) := Sl.below HO2'.out b3
          have hnews := HC2.out W3 b3
          have heb3 : W2.heap.size < W3.heap.size := K3.lt
          have HEB3 := Lib.hid heb3
          obtain ⟨eb, heb⟩ : ∃ eb, eb = W2.heap.size := ⟨_, rfl⟩
          rw [← heb] at HQ3 HEB3 ⊢
          have HLNF : Hid ((L.flatMap tokC).length = n * 3) := by show _ = _; rw [HN.out]; exact flatMap_len tokC_len L
          have hn0 : 0 < n := hsh
          clear b3 K3 B2' HO2' HC2 hW3 heb3 heb
          go_upto_region 10 with (at_builtin; refine wpList_appm rowTok rfl _ _ rfl W3.heap.size (.slice none 0 0) 0 [] rfl (World.ownsRow_nil _ _ _ _) ⟨tb, to_, none⟩ n tc (L.flatMap tokC) rfl hn0 HLNF.out hnews ?c1 ?c2 (Nat.le_refl _) W3.heap.size rfl ?_)
          case c1 =>
            intro u hu
            obtain ⟨x, _, hx⟩ := List.mem_flatMap.1 hu
            simp only [tokC, List.mem_cons, List.not_mem_nil, or_false] at hx
            rcases hx with rfl | rfl | rfl <;> rfl
          case c2 => omega
          intro g cap w4 hown hgrow hat hlt4
          have b4 : Below W3.heap.size W3 w4 := (Below.refl _ _).grown hgrow (Nat.le_refl _) (fun k hk => by cases hk)
          have B4 : Hid (Below w.heap.size w w4) := below_next B3.out b4
          have HO4 : Hid (IsE w4 (.slice va fn vc) fl) := Sl.below HO3.out b4
          have HQ4 : Hid (∀ W, Below w4.heap.size w4 W → W.cell? ⟨eb, q, none⟩ = some (.string t)) := fun W hW => HQ3.out W (below_next b4 hW)
          have heb4 : eb < w4.heap.size := by have := HEB3.out; have := b4.size; omega
          have HEB4 := Lib.hid heb4
          obtain ⟨base, hbase⟩ : ∃ base, base = W3.heap.size := ⟨_, rfl⟩
          have hbe : eb < base := by rw [hbase]; exact HEB3.out
          have hb4s : base ≤ w4.heap.size := by rw [hbase]; exact b4.size
          rw [← hbase] at hown
          have HBASE := Lib.hid hbase
          have HB34 := Lib.hid b4
          have HOWN := Lib.hid hown
          have HGB : Hid (base ≤ g) := (World.ownsRow.lt hown g rfl).1
          have hk0 : Calls Tryz.prog 16 #[.string t] w4.drew fun e w' => e = .returned (.int .i64 (kindN t : Nat)) ∧ Below w4.drew.heap.size w4.drew w' := kind_any t w4.drew
          have K0 : w4.cell? ⟨eb, q, none⟩ = some (.string t) := HQ4.out w4 (Below.refl _ _)
          have K1 : w4.drew.cell? ⟨eb, q, none⟩ = some (.string t) := K0
          have HKN := Lib.hid (kindN_or t)
          clear hgrow hat hlt4 b4 hnews heb4 hbase hown
          go_upto_region 10 with fail
          go_region_held3 (fun w' => w'.cell? ⟨eb, q, none⟩ = some (.string t))
            (first | exact K4 | exact KA _ | exact K2 | exact K1 | exact K0)
            (first
              | ((refine step_appE rowTok (by rfl) _ _ (by rfl) base (.slice (some ⟨g, 0, none⟩) n cap) n (L.flatMap tokC) (by rfl) (hown5.alloc _) ⟨w5.heap.size, 0, none⟩ 1 [.int .i64 (kindN t : Nat), .string t, .int .i64 s.size] (by rfl) rfl (World.news_of_block (heap_alloc_new w5 _)) (by simp [Value.oneCell']) (by omega) (by simp; omega) (w5.heap.size + 1) (by simp) ?_); intro g6 cap6 w6 hown6 hgrow hat hlt6; have K4 : w6.cell? ⟨eb, q, none⟩ = some (.string t) := KG w6 hgrow)
              | (go_at_call 16
                 go_must (with_reducible refine hk0.mono ?_)
                 rintro r w5 ⟨rfl, hb5⟩
                 have b5 : Below w4.heap.size w4 w5 := below_next ((Below.refl w4.heap.size w4).drew) hb5
                 have K2 : w5.cell? ⟨eb, q, none⟩ = some (.string t) := HQ4.out w5 b5
                 have hown5 := below_row b5 HOWN.out
                 have HB5 := Lib.hid b5
                 have hb5s : base ≤ w5.heap.size := by have := b5.size; omega
                 have KA : ∀ o : Obj, (w5.alloc o).cell? ⟨eb, q, none⟩ = some (.string t) := fun o => HQ4.out _ (below_next HB5.out ((Below.refl _ _).alloc (Nat.le_refl _) o))
                 have KG : ∀ w6, (w5.alloc (.cells #[.int .i64 (kindN t : Nat), .string t, .int .i64 s.size] 39)).grownBy w6 (Value.slice (some ⟨g, 0, none⟩) n cap).ownBlock → w6.cell? ⟨eb, q, none⟩ = some (.string t) := fun w6 hg => (World.cell?_of_block (hg.block eb (by simp; omega) (fun e => by have h1 := HGB.out; have e2 : some eb = some g := e; cases e2; omega))).trans (KA _)
                 clear hb5 b5))
          have b36 : Below W3.heap.size W3 w6 := by
            have h1 : Below W3.heap.size W3 w5 := below_next HB34.out HB5.out
            exact (h1.alloc h1.size _).grown hgrow (by simp; have := h1.size; omega) (fun k hk => by have e2 : some g = some k := hk; cases e2; have := HGB.out; have := HBASE.out; omega)
          have B6 : Hid (Below w.heap.size w w6) := below_next B3.out b36
          have HO6 : Hid (IsE w6 (.slice va fn vc) fl) := Sl.below HO3.out b36
          have hsl6 : Sl tokC 3 w6 (.slice (some ⟨g6, 0, none⟩) (n + 1) cap6) (L ++ [(⟨kindN t, t, s.size⟩ : Tok)]) := Sl.own tokC_len (by rw [List.flatMap_append]; exact hown6) (by rw [List.length_append, ← HN.out]; rfl)
          have hpar := behind_S HR.out (t := (⟨kindN t, t, s.size⟩ : Tok)) HTM.out
          rw [← HLL.out, ← HN.out] at hpar
          have hprs := pParse_any (L ++ [(⟨kindN t, t, s.size⟩ : Tok)]) (by rw [List.length_append, ← HN.out]; simp; omega) (fun x hx => by
            rcases List.mem_append.1 hx with hx | hx
            · exact HLK.out x hx
            · rw [List.mem_singleton.1 hx]
              have := HKN.out
              exact ⟨fun h => by simp only at h; omega, fun h => by simp only at h; omega⟩) _ 0 (Nat.zero_le _) _ w6 hsl6 hpar
          clear hown6 hgrow hat hlt6 K4 hk0 K0 K1 K2 hown5 KA KG b36 hsl6 hpar
          have n0 : ((0 : Nat) : Int) = 0 := rfl
          rw [n0] at hprs
          go_wp2_with fail
          refine hprs.mono ?_
          rintro e w7 ⟨hb7, v7, rfl, ho7⟩
          rw [← HFL.out] at ho7
          obtain ⟨ya, yc, rfl, -⟩ := ho7.form
          obtain ⟨W8, hW8⟩ : ∃ W8, W8 = w7.alloc (.cells #[.int .i64 0, .int .i64 0] 27) := ⟨_, rfl⟩
          have b8 : Below w7.heap.size w7 W8 := by rw [hW8]; exact (Below.refl _ _).alloc (Nat.le_refl _) _
          have hO1 : IsE W8 (.slice va fn vc) fl := Sl.below (Sl.below HO6.out hb7) b8
          have hO2 : IsE W8 (.slice ya fl.length yc) fl := Sl.below ho7.isE b8
          have hsame := Same_any fl fl _ _ W8 (by have := HFS.out; omega) (by have := HFS.out; omega) hO2 hO1
          rw [decide_eq_true rfl] at hsame
          have B8 : Hid (Below w.heap.size w W8) := below_next B6.out (below_next hb7 b8)
          have F8 := two_cells (show W8.heap[w7.heap.size]? = _ by rw [hW8]; exact Blk.new w7 _ _)
          obtain ⟨u0, u1, -, -⟩ := F8
          have HU8 : Hid (∀ q, (W8.drewN q).cell? ⟨w7.heap.size, 0, none⟩ = some (.int .i64 0)) := fun q => u0
          subst hW8
          clear hprs ho7 b8 hO1 hO2 hb7
          go_wp2_with fail
          refine hsame.mono ?_
          rintro e w9 ⟨rfl, qq, hqq⟩
          have u2 : w9.cell? ⟨w7.heap.size, 0, none⟩ = some (.int .i64 0) := by rw [hqq]; exact HU8.out qq
          have hB9 : Below w.heap.size w w9 := by rw [hqq]; exact below_drawn B8.out qq
          have hl := HLV.out w9 hB9
          have HB9 := Lib.hid hB9
          clear hsame hqq hB9 u0 u1
          go_wp2_with fail
          refine hl.mono ?_
          rintro e w10 ⟨rfl, hb10⟩
          have HB10 := Lib.hid (below_next HB9.out hb10)
          clear hl hb10
          go_wp2_with fail
          go_ret
          exact ⟨rfl, HB10.out⟩
      · rw [hl] at hln; cases hln
end Go.Proofs.YtmklieoikbgmpaaGreatDoor
