/- The reference's lexer: the walk of Lex. -/
import Derived.Test.YtmklieoikbgmpaaGreatDoorJ13
namespace Go.Proofs.YtmklieoikbgmpaaGreatDoor
open Go.RowKit Go.Shelf
namespace Lx
theorem lexS_after (u : Bs) : lexS (u.dropWhile (· != 10)) = lexS (afterLine u) := by
  unfold afterLine
  cases h : u.dropWhile (· != 10) with
  | nil => rfl
  | cons c r =>
    have hc : c = 10 := by
      have : ∀ l : Bs, ∀ c r, l.dropWhile (· != 10) = c :: r → c = 10 := by
        intro l
        induction l with
        | nil => intro c r h; simp at h
        | cons x l ih =>
          intro c r h
          rw [List.dropWhile_cons] at h
          split at h
          · exact ih c r h
          · rename_i hx; cases h; simpa using hx
      exact this u c r h
    subst hc
    exact lexS_blank (by decide)
theorem drop_row (p : UInt8 → Bool) (l : Bs) : l.drop (l.takeWhile p).length = l.dropWhile p := by
  induction l with
  | nil => rfl
  | cons x l ih => rw [List.takeWhile_cons, List.dropWhile_cons]; split <;> simp_all
theorem bl_iff (c : UInt8) : isBl c = true ↔ c = 32 ∨ c = 9 ∨ c = 10 ∨ c = 13 := by
  simp [isBl, Bool.or_eq_true, or_assoc]
end Lx
theorem byte_eq {c d : UInt8} : (((c.toNat : Nat) : Int) == ((d.toNat : Nat) : Int)) = decide (c = d) := by
  rw [Bool.eq_iff_iff, beq_iff_eq, decide_eq_true_eq, ← UInt8.toNat_inj]; omega
theorem byte_ne {c d : UInt8} : (((c.toNat : Nat) : Int) != ((d.toNat : Nat) : Int)) = !decide (c = d) := by
  rw [bne, byte_eq]
theorem bl_cases (c : UInt8) (h : Lx.isBl c = true) : (((c.toNat : Nat) : Int) == 32) = true ∨ ((((c.toNat : Nat) : Int) == 32) = false ∧ (((c.toNat : Nat) : Int) == 9) = true) ∨
    ((((c.toNat : Nat) : Int) == 32) = false ∧ (((c.toNat : Nat) : Int) == 9) = false ∧ (((c.toNat : Nat) : Int) == 10) = true) ∨
    ((((c.toNat : Nat) : Int) == 32) = false ∧ (((c.toNat : Nat) : Int) == 9) = false ∧ (((c.toNat : Nat) : Int) == 10) = false ∧ (((c.toNat : Nat) : Int) == 13) = true) := by
  rcases (Lx.bl_iff c).1 h with rfl | rfl | rfl | rfl <;> decide
theorem bl_none (c : UInt8) (h : Lx.isBl c = false) : (((c.toNat : Nat) : Int) == 32) = false ∧ (((c.toNat : Nat) : Int) == 9) = false ∧ (((c.toNat : Nat) : Int) == 10) = false ∧ (((c.toNat : Nat) : Int) == 13) = false := by
  have h2 : ∀ d : UInt8, Lx.isBl d = true → (((c.toNat : Nat) : Int) == ((d.toNat : Nat) : Int)) = false := fun d hd => by
    rw [byte_eq]
    by_cases e : c = d
    · subst e; rw [h] at hd; cases hd
    · simp [e]
  exact ⟨h2 32 (by decide), h2 9 (by decide), h2 10 (by decide), h2 13 (by decide)⟩
theorem ext_size (s : ByteArray) (k : Nat) (_h : k ≤ s.size) : (s.extract k s.size).size = s.size - k := by
  rw [← size_toList, extract_drop, List.length_drop, size_toList]
theorem drop_at (s : ByteArray) (k : Nat) (h : k < s.size) : s.data.toList.drop k = s[k] :: s.data.toList.drop (k + 1) := by
  rw [List.drop_eq_getElem_cons (by rw [size_toList]; exact h)]; rfl
theorem com_iff (s : ByteArray) (a : Nat) (h : a < s.size) : Lx.isCom (s.data.toList.drop a) = true ↔ ∃ h2 : a + 1 < s.size, s[a] = 45 ∧ s[a + 1] = 45 := by
  unfold Lx.isCom
  rw [drop_at s a h]
  constructor
  · intro q
    by_cases h2 : a + 1 < s.size
    · rw [drop_at s (a + 1) h2] at q
      simp [List.isPrefixOf] at q
      exact ⟨h2, q.1.symm, q.2.symm⟩
    · have : s.data.toList.drop (a + 1) = [] := by rw [List.drop_eq_nil_iff, size_toList]; omega
      rw [this] at q
      simp [List.isPrefixOf] at q
  · rintro ⟨h2, h3, h4⟩
    rw [drop_at s (a + 1) h2, h3, h4]
    simp [List.isPrefixOf]
theorem is45 {c : UInt8} : (((c.toNat : Nat) : Int) == 45) = decide (c = 45) := byte_eq (d := 45)
theorem is10 {c : UInt8} : (((c.toNat : Nat) : Int) != 10) = !decide (c = 10) := byte_ne (d := 10)
set_option maxRecDepth 100000 in
set_option maxHeartbeats 4000000 in
theorem rLex_any (s : ByteArray) (hs : s.size ≤ 100000) (w : World) :
    Calls Tryz.prog 15 #[.string s] w (LexPost s w) := by
  have hR := heap_alloc_new w (.cells #[.int .i64 0, .int .i64 0] 27)
  go_enter Tryz.func15, Tryz.ntmps15
  go_wp2_with fail
  go_loopw [4, 5] (fun l i wr => ∃ (a : Nat) (done : List Lx.R), a ≤ s.size ∧ i = .int .i64 a ∧ LexLp s w l (s.extract a s.size) done wr) (fun _ i _ => s.size - (intOf i).toNat)
  case atStart => exact ⟨0, [], Nat.zero_le _, rfl, by simp, by simp, (Below.refl _ _).alloc (Nat.le_refl _) _, hR, World.ownsRow_nil _ _ _ _, by rw [extract_drop]; simp⟩
  case round =>
    obtain ⟨a, done, ha, rfl, LP⟩ := hrel
    clear hR
    by_cases hlt : a < s.size
    · have ha2 : (a : Int) < (s.size : Int) := by omega
      have HDA : Hid (s.data.toList.drop a = s[a] :: s.data.toList.drop (a + 1)) := drop_at s a hlt
      by_cases hbl : Lx.isBl s[a] = true
      · have LP2 : LexLp s w u4 (s.extract (a + 1) s.size) done wr := LP.step (Below.refl _ _) (by rw [ext_size _ _ (by omega), ext_size _ _ ha]; omega) (by rw [extract_drop, extract_drop, HDA.out, Lx.lexS_blank hbl])
        have hor := bl_cases s[a] hbl
        clear hbl LP
        rcases hor with h1 | ⟨h1, h2⟩ | ⟨h1, h2, h3⟩ | ⟨h1, h2, h3, h4⟩
        all_goals
          go_wp2_with fail
          go_roundw
          case rel => exact ⟨a + 1, done, by omega, by go_num, LP2⟩
          case measure => simp [intOf]; omega
      · have hbl2 : Lx.isBl s[a] = false := by simpa using hbl
        obtain ⟨h1, h2, h3, h4⟩ := bl_none s[a] hbl2
        obtain ⟨r, hr⟩ : ∃ r, r = s.extract a s.size := ⟨_, rfl⟩
        have HR : Hid (r.data.toList = s.data.toList.drop a) := by show _ = _; rw [hr, extract_drop]
        have hrs : r.size = s.size - a := by rw [hr, ext_size _ _ ha]
        have HB : Hid (r.data.toList.dropWhile Lx.isBl = r.data.toList) := by show _ = _; rw [HR.out, HDA.out, List.dropWhile_cons, if_neg hbl]
        have HE : Hid (r.data.toList ≠ []) := by show _ ≠ _; rw [HR.out, HDA.out]; simp
        rw [← hr] at LP
        have HRR : Hid (r = s.extract a s.size) := hr
        have HS : Hid (r.size = s.size - a) := hrs
        clear hbl hbl2 hr hrs
        by_cases hcom : Lx.isCom r.data.toList = true
        · have LPC : Lx.lexS r.data.toList = Lx.lexS (Lx.afterLine r.data.toList) := Lx.lexS_com HB.out HE.out hcom
          have HLC : Hid (Lx.lexS r.data.toList = Lx.lexS (r.data.toList.dropWhile (· != 10))) := by show _ = _; rw [LPC, Lx.lexS_after]
          have hc := hcom
          rw [HR.out, com_iff s a hlt] at hc
          obtain ⟨g1, g2, g3⟩ := hc
          have g1' : (a : Int) + 1 < (s.size : Int) := by omega
          have g2' : ((((s[a]).toNat : Nat) : Int) == 45) = true := by rw [is45, g2]; rfl
          have g3' : ((((s[a + 1]).toNat : Nat) : Int) == 45) = true := by rw [is45, g3]; rfl
          obtain ⟨L, hL⟩ : ∃ L, L = (r.data.toList.takeWhile (· != 10)).length := ⟨_, rfl⟩
          obtain ⟨HY0, HN0⟩ := Lx.row_facts (· != 10) r.data.toList
          rw [← hL, HR.out] at HY0 HN0
          have hLs : a + L ≤ s.size := by
            have h5 : L ≤ r.size := by rw [hL, ← size_toList]; exact (List.takeWhile_prefix _).length_le
            have := HS.out; omega
          have HYES : Hid (∀ j (h : j < s.size), a ≤ j → j < a + L → ((((s[j]).toNat : Nat) : Int) != 10) = true) := fun j h h5 h6 => by
            have := HY0 (j - a) s[j] (by omega) (by rw [List.getElem?_drop, show a + (j - a) = j by omega]; exact byte_at s j h)
            rw [is10]; simpa using this
          have HNO : Hid (∀ (h : a + L < s.size), ((((s[a + L]).toNat : Nat) : Int) != 10) = false) := fun h => by
            have := HN0 s[a + L] (by rw [List.getElem?_drop]; exact byte_at s _ h)
            rw [is10]; simpa using this
          have hLpos : 0 < L := by
            rcases Nat.eq_zero_or_pos L with h | h
            · have := HNO.out (by omega)
              rw [is10] at this
              simp only [h, Nat.add_zero, g2] at this
              exact absurd this (by decide)
            · exact h
          have HLP : Hid (LexLp s w u4 (s.extract (a + L) s.size) done wr) := LP.step (Below.refl _ _) (by rw [ext_size _ _ hLs, HS.out]; omega) (by rw [HLC.out, extract_drop, ← Lx.drop_row, ← hL, HR.out, List.drop_drop])
          clear LPC hcom g2 g3 hL HY0 HN0 LP
          obtain ⟨E, hE⟩ : ∃ E, E = a + L := ⟨_, rfl⟩
          rw [← hE] at hLs
          have HYE : Hid (∀ j (h : j < s.size), a ≤ j → j < E → ((((s[j]).toNat : Nat) : Int) != 10) = true) := fun j h h5 h6 => HYES.out j h h5 (by omega)
          have HNE : Hid (∀ (h : E < s.size), ((((s[E]).toNat : Nat) : Int) != 10) = false) := by subst hE; exact HNO.out
          have HLE : Hid (LexLp s w u4 (s.extract E s.size) done wr) := by show LexLp s w u4 (s.extract E s.size) done wr; rw [hE]; exact HLP.out
          have haE : a < E := by omega
          clear HYES HNO HLP hE hLpos
          go_wp2_with fail
          obtain ⟨wo, rfl⟩ : ∃ wo : World, wo = wr := ⟨_, rfl⟩
          go_loopw [5] (fun i wr => ∃ j : Nat, a ≤ j ∧ j ≤ E ∧ i = .int .i64 j ∧ wr = wo) (fun i _ => E - (intOf i).toNat)
          case atStart => exact ⟨a, Nat.le_refl _, by omega, rfl, rfl⟩
          case round =>
            obtain ⟨j, hj1, hj2, rfl, hW⟩ := hrel
            subst hW
            by_cases hjl : j < E
            · have hjs : j < s.size := by omega
              have hj3 : (j : Int) < (s.size : Int) := by omega
              have hy := HYE.out j hjs hj1 hjl
              go_wp2_with fail
              go_roundw
              case rel => exact ⟨j + 1, by omega, by omega, by go_num, by trivial⟩
              case measure => simp [intOf]; omega
            · have hje : j = E := by omega
              subst hje
              by_cases hend : j < s.size
              · have hj3 : (j : Int) < (s.size : Int) := by omega
                have hn := HNE.out hend
                go_wp2_with fail
                go_roundw
                case rel => exact ⟨j, done, hLs, rfl, HLE.out⟩
                case measure => simp [intOf]; omega
              · have hj3 : ¬ (j : Int) < (s.size : Int) := by omega
                go_wp2_with fail
                go_roundw
                case rel => exact ⟨j, done, hLs, rfl, HLE.out⟩
                case measure => simp [intOf]; omega
        · have hcom2 : Lx.isCom r.data.toList = false := by simpa using hcom
          have hcs := hcom
          rw [HR.out, com_iff s a hlt] at hcs
          have hor : (¬ (a : Int) + 1 < (s.size : Int)) ∨ ((a : Int) + 1 < (s.size : Int) ∧ ((((s[a]).toNat : Nat) : Int) == 45) = false) ∨ ∃ h : a + 1 < s.size, (a : Int) + 1 < (s.size : Int) ∧ ((((s[a]).toNat : Nat) : Int) == 45) = true ∧ ((((s[a + 1]).toNat : Nat) : Int) == 45) = false := by
            by_cases g1 : a + 1 < s.size
            · by_cases g2 : s[a] = 45
              · have g3 : ¬ s[a + 1] = 45 := fun g3 => hcs ⟨g1, g2, g3⟩
                exact Or.inr (Or.inr ⟨g1, by omega, by rw [is45, g2]; rfl, by rw [is45]; simpa using g3⟩)
              · exact Or.inr (Or.inl ⟨by omega, by rw [is45]; simpa using g2⟩)
            · exact Or.inl (by omega)
          have HC : Hid (Lx.isCom r.data.toList = false) := hcom2
          clear hcom hcom2 hcs
          have hrsz : r.size ≤ 100000 := by have := HS.out; omega
          have hrpos : 0 < r.size := by have := HS.out; omega
          rcases hor with g1 | ⟨g1, g2⟩ | ⟨g0, g1, g2, g3⟩
          all_goals
            go_wp2_with fail
            rw [← HRR.out]
            refine (rone_any r a hrsz hrpos wr).mono ?_
            rintro e w3 ⟨k, er, t, p', rfl, hb3, hor⟩
            have LP3 := LP.step hb3 (Nat.le_refl _) rfl
            clear LP hb3
            rcases hor with ⟨rfl, hp, hf⟩ | ⟨hne, hf⟩
            · have hp2 := hp.symm
              subst hp2
              have hpr := (Lx.first_tok hf).1
              have htn : t.data.toList ≠ [] := (Lx.first_tok hf).2.resolve_right HE.out
              have htl : t.size ≤ r.size := by rw [size_of_list, size_of_list]; exact hpr.length_le
              have HT : Hid (Lx.lexS r.data.toList = _) := Lx.lexS_tok HB.out HE.out HC.out hf
              have HN : Hid (t.data.toList ≠ []) := htn
              have hfw := LP3.few
              have hlb := LP3.below.size
              have hnewA := heap_alloc_new w3 (.cells #[.int .i64 k, .string t, .int .i64 a] 39)
              have hnewB := heap_alloc_new (w3.alloc (.cells #[.int .i64 k, .string t, .int .i64 a] 39)) (.cells #[.int .i64 k, .string t, .int .i64 a] 39)
              have hA2 : ((w3.alloc (.cells #[.int .i64 k, .string t, .int .i64 a] 39)).alloc (.cells #[.int .i64 k, .string t, .int .i64 a] 39)).heap[w3.heap.size]? = some (.cells #[.int .i64 k, .string t, .int .i64 a] 39) := (Below.heap_alloc _ _ _ (by simp)).trans hnewA
              rw [World.size_alloc] at hnewB
              have LPA := LP3.step ((Below.refl _ _).alloc (Nat.le_refl _) (.cells #[.int .i64 k, .string t, .int .i64 a] 39)) (Nat.le_refl _) rfl
              have HNA : Hid (_ ∧ _) := ⟨hnewB, hA2⟩
              clear hpr htn hf hnewA hnewB hA2
              go_wp2_with (at_builtin; refine wpList_app rowTok rfl _ _ rfl (w.heap.size + 1) _ _ _ rfl (LPA.own.alloc _) ⟨w3.heap.size + 1, 0, none⟩ 1 [.int .i64 k, .string t, .int .i64 a] rfl rfl (World.news_of_block HNA.out.1) (by simp [Value.oneCell']) (by omega) (by simp; omega) (w3.heap.size + 2) (by simp) ?_)
              intro g cap w4 hown hgrow hat hlt hcap
              have hlow : ∀ q, u4.ownBlock = some q → w.heap.size + 1 ≤ q ∧ q < w3.heap.size := LP3.own.lt
              have hA4 := (hgrow.block w3.heap.size (by simp; omega) (fun q => by have := (hlow _ q.symm).2; omega)).trans HNA.out.2
              have hc1 : w4.cell? ⟨w3.heap.size, 1, none⟩ = some (.string t) := by simp [World.cell?, hA4]
              have LP4 := LPA.push (u' := s.extract (a + t.size) s.size) (d := a) (by have := HS.out; omega) HN.out htl HT.out (by rw [extract_drop, HR.out, List.drop_drop, size_toList]) hown hgrow
              clear hown hgrow hat LP3 LPA hfw hlb hlow HNA hA4
              have hpos : 0 < t.size := by rw [size_of_list]; exact List.length_pos_iff.2 HN.out
              have hts : a + t.size ≤ s.size := by have := HS.out; omega
              generalize w3.heap.size = tb at hc1 ⊢
              go_wp2_with fail
              go_roundw
              case rel => exact ⟨a + t.size, _, hts, by go_num, LP4⟩
              case measure => simp [intOf]; omega
            · have hne2 : ((er : Int) != 0) = true := by rw [bne_iff_ne]; omega
              obtain ⟨c0, c1, f0, f1⟩ := two_cells (show (w3.alloc (.cells #[.int .i64 k, .string t, .int .i64 p'] 39)).heap[w.heap.size]? = _ from (Below.heap_alloc _ _ _ (Array.getElem?_eq_some_iff.1 LP3.ret).1).trans LP3.ret)
              have HN : Hid (er ≠ 0) := hne
              have HT : Hid (Lx.lexS r.data.toList = _) := Lx.lexS_err HB.out HE.out HC.out hf
              have hB4 := LP3.below.alloc LP3.below.size (.cells #[.int .i64 k, .string t, .int .i64 p'] 39)
              have heq := LP3.eq
              have HQ : Hid ((Lx.lexS s.data.toList).2 = some (er, r.data.toList.length)) := by show _ = _; rw [heq, HT.out]
              clear hne hf heq LP3
              go_wp2_with fail
              refine bodyPost_ret (v := .tuple #[.slice none 0 0, .agg #[.int .i64 er, .int .i64 a]]) (by simp [results, Tryz.results15, go_sem, c0, c1]) rfl ?_
              exact ⟨_, _, _, rfl, (hB4.setCell (Nat.le_refl _) _).setCell (Nat.le_refl _) _, Or.inr ⟨er, _, HN.out, rfl, by rw [size_toList]; have := HS.out; omega, HQ.out, rfl⟩⟩
    · have hea : a = s.size := by omega
      subst hea
      obtain ⟨c0, c1, f0, f1⟩ := two_cells LP.ret
      have hq : Lx.lexS s.data.toList = (done, none) := by
        rw [LP.eq, extract_drop]
        have : s.data.toList.drop s.size = [] := by rw [List.drop_eq_nil_iff, size_toList]; omega
        rw [this, Lx.lexS_nil]; simp
      have HQ : Hid (_ = _) := hq
      clear hq
      go_wp2_with fail
      refine bodyPost_ret (v := .tuple #[u4, .agg #[.int .i64 0, .int .i64 0]]) (by simp [results, Tryz.results15, go_sem, c0, c1]) rfl ?_
      refine ⟨_, _, _, rfl, (LP.below.setCell (Nat.le_refl _) _).setCell (Nat.le_refl _) _, Or.inl ⟨rfl, rfl, by rw [HQ.out], ?_⟩⟩
      rw [HQ.out]
      exact (ownsRow_setCell_below (ownsRow_setCell_below LP.own (by simp) _) (by simp) _).mono (by omega)
end Go.Proofs.YtmklieoikbgmpaaGreatDoor
