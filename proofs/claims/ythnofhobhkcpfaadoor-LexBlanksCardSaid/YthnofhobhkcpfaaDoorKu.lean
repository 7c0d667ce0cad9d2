/- The law LexBlanks: the walk. -/
import Derived.Test.YthnofhobhkcpfaaDoorKt
import Derived.Test.YthnofhobhkcpfaaDoorSf
import Derived.Laws.IdiomStrings
import Derived.Laws.MakeOwn
import Derived.Deep.QuietTactic
import Derived.BigQuiet
namespace Go.Proofs.YthnofhobhkcpfaaDoor
open Go.RowKit Go.Shelf

def blank1 (k : Nat) : UInt8 := if k % 4 = 0 then 32 else if k % 4 = 1 then 9 else if k % 4 = 2 then 10 else 13
def blanks (n : Nat) : List UInt8 := (List.range n).map blank1
theorem blanks_bl (n : Nat) : ∀ c ∈ blanks n, Lx.isBl c = true := by
  intro c hc
  simp only [blanks, List.mem_map] at hc
  obtain ⟨k, _, rfl⟩ := hc
  unfold blank1
  split
  · decide
  · split
    · decide
    · split <;> decide
theorem blanks_get (n k : Nat) (h : k < n) : (blanks n)[k]? = some (blank1 k) := by simp [blanks, h]

structure AroundOf (s j : ByteArray) (n : Nat) : Prop where
  list : j.data.toList = blanks n ++ s.data.toList ++ 10 :: blanks n
theorem AroundOf.size {s j : ByteArray} {n : Nat} (h : AroundOf s j n) : j.size = n + s.size + 1 + n := by
  rw [← size_toList, h.list]; simp [blanks]; omega
theorem around_lex {s j : ByteArray} {n : Nat} (h : AroundOf s j n) : Lx.lexS j.data.toList = ((Lx.lexS s.data.toList).1.map (Lx.sh (n + 1)), (Lx.lexS s.data.toList).2.map fun p => (p.1, p.2 + (n + 1))) := by
  rw [h.list, Lx.lexS_around _ _ (blanks_bl n)]
  simp [blanks]
theorem around_err {s j : ByteArray} {n : Nat} (h : AroundOf s j n) (hz : lexEr s ≠ 0) : lexEr j = lexEr s ∧ lexAt j = lexAt s + n := by
  obtain ⟨c, m, h1, h2, h3, _⟩ := lexEr_some hz
  have hm := (Lx.lexS_chain s.data.toList s.data.toList (List.suffix_refl _)).2 c m h1
  rw [size_toList] at hm
  have hl : (Lx.lexS j.data.toList).2 = some (c, m + (n + 1)) := by rw [around_lex h, h1]; rfl
  have hn : lexEr j ≠ 0 := by rw [h2] at hz; unfold lexEr; rw [hl]; exact hz
  obtain ⟨c', m', g1, g2, g3, _⟩ := lexEr_some hn
  rw [hl] at g1
  simp only [Option.some.injEq, Prod.mk.injEq] at g1
  obtain ⟨rfl, rfl⟩ := g1
  have := h.size
  exact ⟨by rw [g2, h2], by rw [g3, h3]; omega⟩
theorem around_ok {s j : ByteArray} {n : Nat} (h : AroundOf s j n) (hz : lexEr s = 0) : lexEr j = 0 ∧ lexToks j = (lexToks s).map (shT n) := by
  obtain ⟨h0, hs, _⟩ := lexEr_zero hz
  have hl := around_lex h
  rw [h0] at hl
  have hn : lexEr j = 0 := lexEr_of_none (by rw [hl]; rfl)
  refine ⟨hn, ?_⟩
  have la := lexR_le s.data.toList
  rw [size_toList] at la
  have := h.size
  rw [(lexEr_zero hn).2.1, hs, hl]
  exact toks_sh j.size s.size (n + 1) n _ la (by omega)
theorem toks_p {s : ByteArray} {x : Tok} {k : Nat} (hx : (lexToks s)[k]? = some x) : x.p ≤ s.size := by
  have h2 : ∀ (l : List Tok) (e : Nat), TChain s e l → ∀ y ∈ l, y.p ≤ s.size := by
    intro l
    induction l with
    | nil => intro e _ y hy; simp at hy
    | cons z l ih =>
      intro e h y hy
      obtain ⟨_, _, h3, _, h5⟩ := h
      simp only [List.mem_cons] at hy
      rcases hy with rfl | hy
      · omega
      · exact ih _ h5 y hy
  exact h2 _ _ (lexToks_chain s) x (List.mem_of_getElem? hx)

theorem infoByte : (Tryd.prog.info? 5).map (fun i => (i.zero, i.size, i.bytes)) = some (some (.int .u8 0), 1, 1) := by kernel_rfl
def byteV (c : UInt8) : Value := .int .u8 (c.toNat : Int)

set_option maxRecDepth 100000 in
set_option maxHeartbeats 4000000 in
theorem blanks_any (s : ByteArray) (ni : Int) (w : World) (G : Gl w) : Calls Tryd.prog 7 #[.string s, .int .i64 ni] w fun e w' => e = .returned (.bool true) ∧ Below w.heap.size w w' := by
  by_cases hout : 1000 < s.size ∨ ni < 0 ∨ 100 < ni
  · have hor : (1000 < s.size) ∨ (s.size ≤ 1000 ∧ ni < 0) ∨ (s.size ≤ 1000 ∧ 0 ≤ ni ∧ 100 < ni) := by omega
    clear hout
    rcases hor with h1 | ⟨h1, h2⟩ | ⟨h1, h2, h3⟩
    all_goals
      go_enter Tryd.func7, Tryd.ntmps7
      go_wp2_with fail
      refine (live_any w G).mono ?_
      rintro e w1 ⟨rfl, hb1⟩
      go_wp2_with fail
      go_ret
      exact ⟨rfl, hb1⟩
  have hs : s.size ≤ 1000 := by omega
  obtain ⟨n, rfl⟩ : ∃ n : Nat, ni = n := ⟨ni.toNat, by omega⟩
  have hn : n ≤ 100 := by omega
  clear hout
  obtain ⟨i0, hi, hz0, hz1, hz2⟩ := info_parts infoByte
  obtain ⟨L, hL⟩ : ∃ L, L = (blanks n).map byteV := ⟨_, rfl⟩
  have hLn : L.length = n := by rw [hL]; simp [blanks]
  have HL : Hid (L = (blanks n).map byteV ∧ L.length = n) := ⟨hL, hLn⟩
  clear hL hLn
  go_enter Tryd.func7, Tryd.ntmps7
  go_wp2_with (at_make; refine wpList_make_full _ rfl _ _ 35 rfl w.heap.size 5 i0 (.int .u8 0) 1 Tryd.underlying35 hi hz0 hz1 _ _ _ _ n rfl rfl rfl rfl ?_ ?_ ?_ ?_; rotate_right; intro w2 hown2 hgrow2)
  case refine_1 => rw [hz2]; omega
  case refine_2 => unfold maxLen; omega
  case refine_3 => exact Nat.le_refl _
  have hB2 : Below w.heap.size w w2 := (Below.refl _ _).grown hgrow2 (Nat.le_refl _) (by simp)
  have hown : w2.ownsRow w.heap.size 5 1 (.slice (some ⟨w.heap.size, 0, none⟩) n n) n (fillV (.int .u8 0) L 0) := by
    rw [fillV_zero, HL.out.2]
    have := hown2
    simp only [Value.cells, Nat.mul_one, toList_madeCells_one] at this
    exact this
  clear hown2 hgrow2 hi hz0 hz1 hz2
  go_loopw [6] (fun i wr => ∃ k : Nat, k ≤ n ∧ i = .int .i64 k ∧ wr.ownsRow w.heap.size 5 1 (.slice (some ⟨w.heap.size, 0, none⟩) n n) n (fillV (.int .u8 0) L k) ∧ Below w.heap.size w wr) (fun i _ => n - (intOf i).toNat)
  case atStart => exact ⟨0, Nat.zero_le _, rfl, hown, hB2⟩
  case round =>
    obtain ⟨k, hk, rfl, hown, hB⟩ := hrel
    clear hB2
    by_cases hlt : k < n
    · have hg : (fillV (.int .u8 0) L k)[k]? = some (.int .u8 0) := fillV_get _ _ _ (by have := HL.out.2; omega)
      have hc := hown.cellAt k (by omega)
      rw [hg] at hc
      have hfz := hown.frozenAt k
      have HG : Hid (L[k]? = some (byteV (blank1 k))) := by show _ = _; rw [HL.out.1, List.getElem?_map, blanks_get n k hlt]; rfl
      have hk1 : (k : Int) < (n : Int) := by omega
      have hk0 : (0 : Int) ≤ (k : Int) := by omega
      clear hg
      obtain ⟨r, hr⟩ : ∃ r, r = k % 4 := ⟨_, rfl⟩
      have hr4 : r < 4 := by omega
      have HR : Hid (r = k % 4) := hr
      have hor : r = 0 ∨ r = 1 ∨ r = 2 ∨ r = 3 := by omega
      rcases hor with rfl | rfl | rfl | rfl
      · have hm : (k : Int) % 4 = 0 := by omega
        have HV : Hid (byteV (blank1 k) = .int .u8 32) := by show _ = _; unfold blank1; rw [if_pos HR.out.symm]; rfl
        clear hr hr4
        go_wp2_with fail
        go_roundw
        case rel => exact ⟨k + 1, by omega, by go_num, by rw [← fillV_set _ _ k _ HG.out, HV.out]; exact (hown.stored k _).1, hB.setCell (Nat.le_refl _) _⟩
        case measure => simp [intOf]; omega
      · have hm : (k : Int) % 4 = 1 := by omega
        have HV : Hid (byteV (blank1 k) = .int .u8 9) := by show _ = _; unfold blank1; rw [if_neg (by have := HR.out; omega), if_pos HR.out.symm]; rfl
        clear hr hr4
        go_wp2_with fail
        go_roundw
        case rel => exact ⟨k + 1, by omega, by go_num, by rw [← fillV_set _ _ k _ HG.out, HV.out]; exact (hown.stored k _).1, hB.setCell (Nat.le_refl _) _⟩
        case measure => simp [intOf]; omega
      · have hm : (k : Int) % 4 = 2 := by omega
        have HV : Hid (byteV (blank1 k) = .int .u8 10) := by show _ = _; unfold blank1; rw [if_neg (by have := HR.out; omega), if_neg (by have := HR.out; omega), if_pos HR.out.symm]; rfl
        clear hr hr4
        go_wp2_with fail
        go_roundw
        case rel => exact ⟨k + 1, by omega, by go_num, by rw [← fillV_set _ _ k _ HG.out, HV.out]; exact (hown.stored k _).1, hB.setCell (Nat.le_refl _) _⟩
        case measure => simp [intOf]; omega
      · have hm : (k : Int) % 4 = 3 := by omega
        have HV : Hid (byteV (blank1 k) = .int .u8 13) := by show _ = _; unfold blank1; rw [if_neg (by have := HR.out; omega), if_neg (by have := HR.out; omega), if_neg (by have := HR.out; omega)]; rfl
        clear hr hr4
        go_wp2_with fail
        go_roundw
        case rel => exact ⟨k + 1, by omega, by go_num, by rw [← fillV_set _ _ k _ HG.out, HV.out]; exact (hown.stored k _).1, hB.setCell (Nat.le_refl _) _⟩
        case measure => simp [intOf]; omega
    · have hke : k = n := by omega
      subst hke
      have hfull : fillV (.int .u8 0) L k = L := by have := fillV_full (.int .u8 0) L; rwa [HL.out.2] at this
      rw [hfull] at hown
      have G1 := G.below hB
      obtain ⟨bb, hbb⟩ : ∃ bb, w.heap.size = bb := ⟨_, rfl⟩
      have hcells : ∀ j (hj : j < (blanks k).length), wr.cell? ⟨bb, j, none⟩ = some (.int .u8 (((blanks k)[j]).toNat : Int)) := by
        intro j hj
        have hj2 : j < k := by simpa [blanks] using hj
        have := hown.cellAt j (by omega)
        rw [hbb] at this
        rw [this, HL.out.1, List.getElem?_map, List.getElem?_eq_getElem hj]; rfl
      have hbbl : bb < wr.heap.size := by rw [← hbb]; exact (hown.lt _ rfl).2
      have HC : Hid (∀ j (hj : j < (blanks k).length), wr.cell? ⟨bb, j, none⟩ = some (.int .u8 (((blanks k)[j]).toNat : Int))) := hcells
      have HBB : Hid (w.heap.size = bb) := hbb
      rw [hbb]
      clear hfull hown hcells hbb
      go_wp2_with fail
      refine (Lex_res s (by omega) wr G1).mono ?_
      rintro e w1 ⟨v, er, at_, rfl, hb1, s1, her, hat⟩
      have nb1 := (Below.refl w1.heap.size w1).alloc (Nat.le_refl _) (.cells #[.int .i64 er, .int .i64 at_] 26)
      have hb1n := below_next hb1 nb1
      have B1 : Below w.heap.size w (w1.alloc (.cells #[.int .i64 er, .int .i64 at_] 26)) := below_next hB hb1n
      have k1 := Blk.new w1 #[.int .i64 er, .int .i64 at_] 26
      have s1 := s1.below nb1
      have G1 := G1.below hb1n
      have HE : Hid (er = (lexEr s : Nat) ∧ at_ = (lexAt s : Nat)) := ⟨her, hat⟩
      have hblen : (blanks k).length = k := by simp [blanks]
      have hcv : (convert 35 9 (.slice (some ⟨bb, 0, none⟩) k k)).run Tryd.prog (w1.alloc (.cells #[.int .i64 er, .int .i64 at_] 26)) = .ok (.string ⟨(blanks k).toArray⟩) (w1.alloc (.cells #[.int .i64 er, .int .i64 at_] 26)) := by
        have h := run_convert_bytes_back (P := Tryd.prog) (w1.alloc (.cells #[.int .i64 er, .int .i64 at_] 26)) 35 9 5 ⟨bb, 0, none⟩ k (blanks k) Tryd.underlying35 Tryd.underlying5 Tryd.underlying9 (fun j hj => by
          have e1 : (⟨bb, 0, none⟩ : Addr).add j = ⟨bb, j, none⟩ := by rw [Addr.add]; split <;> simp_all
          rw [e1, hb1n.cell (p := ⟨bb, j, none⟩) hbbl]
          exact HC.out j hj)
        rw [hblen] at h
        exact h
      obtain ⟨bl, hbl⟩ : ∃ bl : ByteArray, bl = ⟨(blanks k).toArray⟩ := ⟨_, rfl⟩
      have hbls : bl.size ≤ 100 := by rw [hbl, mk_size, hblen]; exact hn
      have HBL : Hid (bl.data.toList = blanks k) := by show _ = _; rw [hbl]
      rw [← hbl] at hcv
      clear nb1 hb1 hb1n her hat G hblen hB hbl
      go_wp2_with fail
      clear hcv
      generalize w1.alloc (.cells #[.int .i64 er, .int .i64 at_] 26) = W1 at B1 k1 s1 G1 ⊢
      generalize w1.heap.size = b1 at k1 ⊢
      obtain ⟨j, hj⟩ : ∃ j : ByteArray, j = bl ++ s ++ (⟨#[10]⟩ : ByteArray) ++ bl := ⟨_, rfl⟩
      have A : AroundOf s j k := ⟨by rw [hj, concat_list, concat_list, concat_list, HBL.out]; simp⟩
      have hjs := A.size
      rw [← hj]
      clear hj
      refine (Lex_res j (by omega) W1 G1).mono ?_
      rintro e w3 ⟨v3, er3, at3, rfl, hb3, s3, her, hat⟩
      have nb3 := (Below.refl w3.heap.size w3).alloc (Nat.le_refl _) (.cells #[.int .i64 er3, .int .i64 at3] 26)
      have B3 := below_next (below_next B1 hb3) nb3
      have k1 := (k1.below hb3).below nb3
      have k3 := Blk.new w3 #[.int .i64 er3, .int .i64 at3] 26
      have s1 := (s1.below hb3).below nb3
      have s3 := s3.below nb3
      have G3 := (G1.below hb3).below nb3
      have HE3 : Hid (er3 = (lexEr j : Nat) ∧ at3 = (lexAt j : Nat)) := ⟨her, hat⟩
      clear hb3 nb3 G1 B1 her hat
      obtain ⟨a0, a1, -, -⟩ := two_cells k1
      by_cases hz : lexEr s = 0
      · have er0 : er = 0 := by rw [HE.out.1, hz]; rfl
        subst er0
        obtain ⟨g1, g2⟩ := around_ok A hz
        have hn3 : er3 = 0 := by rw [HE3.out.1, g1]; rfl
        subst hn3
        have HJ : Hid (lexToks j = (lexToks s).map (shT k)) := g2
        obtain ⟨p1, q1, rfl, hl1, f1⟩ := s1.form
        obtain ⟨p3, q3, rfl, hl3, f3⟩ := s3.form
        obtain ⟨na, hna⟩ : ∃ n, n = (lexToks s).length := ⟨_, rfl⟩
        have hnj : na = (lexToks j).length := by rw [HJ.out, List.length_map, hna]
        have hca := lexToks_len s
        rw [← hna] at hl1 hca ⊢
        rw [← hnj] at hl3 ⊢
        have HNA : Hid (na = (lexToks s).length) := hna
        have HP : Hid (∀ (i : Nat) (x : Tok), (lexToks s)[i]? = some x → x.p ≤ s.size) := fun i x hx => toks_p hx
        clear hna hnj g1 g2 hz HE HE3 s1 s3 A a1
        go_wp2_with fail
        clear a0 k1 k3
        generalize w3.alloc (.cells #[.int .i64 0, .int .i64 at3] 26) = W3 at B3 G3 f1 f3 ⊢
        generalize w3.heap.size = b3
        go_loopw [11] (fun i wr => ∃ k : Nat, k ≤ na ∧ i = .int .i64 k ∧ Below W3.heap.size W3 wr) (fun i _ => na - (intOf i).toNat)
        case atStart => exact ⟨0, Nat.zero_le _, rfl, Below.refl _ _⟩
        case round =>
          obtain ⟨i, hi, rfl, hB⟩ := hrel
          by_cases hlt : i < na
          · obtain ⟨x, hx⟩ : ∃ x, (lexToks s)[i]? = some x := ⟨_, List.getElem?_eq_getElem (by have := HNA.out; omega)⟩
            have hy : (lexToks j)[i]? = some (shT k x) := by rw [HJ.out, List.getElem?_map, hx]; rfl
            obtain ⟨b1, o1, rfl, hc⟩ := f3 _ hB i _ hy
            have hsz := hB.size
            obtain ⟨b2, o2, rfl, hd⟩ := f1 _ (hB.alloc hsz (.cells #[.int .i64 x.k, .string x.t, .int .i64 x.p] 33)) i x hx
            obtain ⟨xp, hxp⟩ : ∃ q, q = x.p + k := ⟨_, rfl⟩
            have c0 : wr.cell? ⟨b1, o1 + i * 3, none⟩ = some (.int .i64 x.k) := hc 0 _ rfl
            have c1 : wr.cell? ⟨b1, o1 + i * 3 + 1, none⟩ = some (.string x.t) := hc 1 _ rfl
            have c2 : wr.cell? ⟨b1, o1 + i * 3 + 2, none⟩ = some (.int .i64 xp) := by rw [hxp]; exact hc 2 _ rfl
            have d0 : (wr.alloc (.cells #[.int .i64 x.k, .string x.t, .int .i64 x.p] 33)).cell? ⟨b2, o2 + i * 3, none⟩ = some (.int .i64 x.k) := hd 0 _ rfl
            have d1 : (wr.alloc (.cells #[.int .i64 x.k, .string x.t, .int .i64 x.p] 33)).cell? ⟨b2, o2 + i * 3 + 1, none⟩ = some (.string x.t) := hd 1 _ rfl
            have d2 : (wr.alloc (.cells #[.int .i64 x.k, .string x.t, .int .i64 x.p] 33)).cell? ⟨b2, o2 + i * 3 + 2, none⟩ = some (.int .i64 x.p) := hd 2 _ rfl
            have hq : ∀ W, (Op.equalIn 10000 33 (.agg #[.int .i64 x.k, .string x.t, .int .i64 x.p]) (.agg #[.int .i64 x.k, .string x.t, .int .i64 x.p])).run Tryd.prog W = .ok true W := fun W => by
              have := eqTok x x W
              rw [tokEq_iff.2 rfl] at this; exact this
            have hpa := HP.out i x hx
            have i4 : ((xp : Nat) : Int) - ((k : Nat) : Int) = ((x.p : Nat) : Int) := by omega
            have hk0 : (0 : Int) ≤ (i : Int) := by omega
            have hk1 : (i : Int) < (na : Int) := by omega
            clear hc hd hx hy hxp f1 f3
            go_wp2_with fail
            go_quiet (fail)
            go_wp2_with fail
            go_roundw
            case rel => exact ⟨i + 1, by omega, by go_num, below_drawn (hB.alloc hsz _) _⟩
            case measure => simp [intOf]; omega
          · have hke : i = na := by omega
            subst hke
            have B5 := below_next B3 hB
            have G5 := G3.below hB
            clear f1 f3
            go_wp2_with fail
            refine (live_any _ G5).mono ?_
            rintro e w9 ⟨rfl, hb9⟩
            go_wp2_with fail
            go_ret
            exact ⟨rfl, below_next B5 hb9⟩
      · obtain ⟨q1, q2⟩ := around_err A hz
        have e1 : er3 = er := by rw [HE3.out.1, HE.out.1, q1]
        have e2 : at3 = at_ + (k : Int) := by rw [HE3.out.2, HE.out.2, q2]; omega
        have hne : (er != 0) = true := by rw [bne_iff_ne, HE.out.1]; omega
        have hle : 0 ≤ at_ := by rw [HE.out.2]; omega
        have hle2 : at_ ≤ 1000 := by rw [HE.out.2]; have := lexAt_lt hz; omega
        subst e1
        subst e2
        have hq : ∀ W, (Op.equalIn 10000 26 (.agg #[.int .i64 er3, .int .i64 (at_ + (k : Int))]) (.agg #[.int .i64 er3, .int .i64 (at_ + (k : Int))])).run Tryd.prog W = .ok true W := fun W => by rw [eqFault]; simp
        clear HE HE3 q1 q2 hz s1 s3
        go_wp2_with fail
        refine (live_any _ G3).mono ?_
        rintro e w9 ⟨rfl, hb9⟩
        go_wp2_with fail
        go_ret
        exact ⟨rfl, below_next B3 hb9⟩
end Go.Proofs.YthnofhobhkcpfaaDoor
