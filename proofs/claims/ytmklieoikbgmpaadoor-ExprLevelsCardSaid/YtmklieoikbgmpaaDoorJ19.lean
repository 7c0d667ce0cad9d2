/- The token that a text begins with: the walk of the lexer's first. Lex: the walk. -/
import Derived.Deep.QuietTactic
import Derived.BigQuiet
import Derived.Test.YtmklieoikbgmpaaDoorJ1
import Derived.Test.YtmklieoikbgmpaaDoorJ2
set_option linter.unusedVariables false
set_option linter.unusedSimpArgs false
namespace Go.Proofs.YtmklieoikbgmpaaDoor
open Go.RowKit Go.Shelf
def FirstPost (s : ByteArray) (w : World) (e : Ending) (w' : World) : Prop :=
  ∃ (k er : Nat) (t : ByteArray), e = .returned (.tuple #[.int .i64 k, .string t, .int .i64 er]) ∧ ((er = 0 ∧ Lx.first s.data.toList = .tok k t.data.toList) ∨ (er ≠ 0 ∧ Lx.first s.data.toList = .err er)) ∧ Below w.heap.size w w'
theorem first1_any (s t : ByteArray) (b : Nat) (w : World) (hc : w.cell? ⟨b, 0, none⟩ = some (.string s)) :
    Calls Tryd.prog 31 #[.string t, .pointer (some ⟨b, 0, none⟩)] w fun e w' => e = .returned (.bool (Lib.hasPrefix s.data.toList t.data.toList)) ∧ w' = w := by
  go_enter Tryd.func31, Tryd.ntmps31
  go_wp2_with fail
  refine (Tryd.strings_HasPrefix s t w).mono ?_
  rintro e w1 ⟨rfl, hW⟩
  subst hW
  go_wp2_with fail
  go_ret
  exact ⟨rfl, rfl⟩
theorem eFirst1 : ∀ args w, (callFunc 31 args).run Tryd.prog w = .ok (.enter 31 args) w := enters_of Tryd.func31 (by kernel_rfl) rfl
def signsB : List ByteArray := Lx.signs.map fun l => ⟨l.toArray⟩
theorem signsB_get (j : Nat) (h : j < signsB.length) : signsB[j]! = ⟨(Lx.signs.getD j []).toArray⟩ := by
  have h2 : j < Lx.signs.length := h
  have e : signsB[j]? = some ⟨(Lx.signs.getD j []).toArray⟩ := by
    unfold signsB
    rw [List.getElem?_map, List.getD_eq_getElem?_getD, List.getElem?_eq_getElem h2]; rfl
  rw [List.getElem!_eq_getElem?_getD, e]; rfl
theorem signsB_find (l : Lx.Bs) : Lx.signs.find? (·.isPrefixOf l) = (signsB.find? (fun y => Lib.hasPrefix l y.data.toList)).map (fun b => b.data.toList) := by
  unfold signsB
  rw [List.find?_map, Option.map_map]
  have : ((fun y : ByteArray => Lib.hasPrefix l y.data.toList) ∘ fun l : Lx.Bs => (⟨l.toArray⟩ : ByteArray)) = (·.isPrefixOf l) := rfl
  rw [this]
  have h2 : ((fun b : ByteArray => b.data.toList) ∘ fun l : Lx.Bs => (⟨l.toArray⟩ : ByteArray)) = id := rfl
  rw [h2, Option.map_id]; rfl
set_option maxHeartbeats 1000000 in
theorem first_any (s : ByteArray) (hs : s.size ≤ 100000) (w : World) (G : Gl w) :
    Calls Tryd.prog 12 #[.string s] w (FirstPost s w) := by
  have bw : Below w.heap.size w (w.alloc (.cells #[.string s] 9)) := (Below.refl _ _).alloc (Nat.le_refl _) _
  have cc : (w.alloc (.cells #[.string s] 9)).cell? ⟨w.heap.size, 0, none⟩ = some (.string s) := by
    rw [cell_of_row _ _ 0 _ _ _ (heap_alloc_new w _)]; rfl
  have blt : w.heap.size < (w.alloc (.cells #[.string s] 9)).heap.size := by show w.heap.size < (w.heap.push _).size; simp
  have G0 := G.below bw
  go_enter Tryd.func12, Tryd.ntmps12
  go_wp2_with fail
  generalize hbx : w.heap.size = bx at cc blt bw ⊢
  have HBX : Hid (w.heap.size = bx) := hbx
  clear hbx
  generalize w.alloc (.cells #[.string s] 9) = W at bw cc blt G0 ⊢
  refine (row_digit s hs W).mono ?_
  rintro e w1 ⟨d, rfl, hd, hb1⟩
  have HD : Hid (d.data.toList = s.data.toList.takeWhile Lx.isDig) := hd
  have G1 := G0.below hb1
  have c1 : w1.cell? ⟨bx, 0, none⟩ = some (.string s) := (hb1.cell blt).trans cc
  have bl1 := Nat.lt_of_lt_of_le blt hb1.size
  have B1 : Below w.heap.size w w1 := by rw [HBX.out]; exact bw.trans (hb1.mono (Nat.le_of_lt blt))
  clear hd G0 cc blt bw hb1 G
  by_cases he : d.toList = []
  · have he2 : (!d.toList.isEmpty) = false := by simp [he]
    have HE : Hid (s.data.toList.takeWhile Lx.isDig = []) := by show _ = _; rw [← HD.out]; exact toList_nil.1 he
    go_wp2_with fail
    clear he he2
    refine (row_part s hs w1).mono ?_
    rintro e w2 ⟨p, rfl, hp, hb2⟩
    have HP : Hid (p.data.toList = s.data.toList.takeWhile Lx.isPt) := hp
    have G2 := G1.below hb2
    have c2 : w2.cell? ⟨bx, 0, none⟩ = some (.string s) := (hb2.cell bl1).trans c1
    have bl2 := Nat.lt_of_lt_of_le bl1 hb2.size
    have B2 := B1.trans (hb2.mono B1.size)
    clear hp G1 c1 bl1 B1 hb2
    go_wp2_with fail
    refine (IsWord_any p w2 G2).mono ?_
    rintro e w3 ⟨rfl, hb3⟩
    obtain ⟨bW, hbW⟩ : ∃ b, b = Lx.isWord p.data.toList := ⟨_, rfl⟩
    rw [← hbW]
    have HW : Hid (Lx.isWord (s.data.toList.takeWhile Lx.isPt) = bW) := by show _ = _; rw [hbW, HP.out]
    have G3 := G2.below hb3
    have c3 : w3.cell? ⟨bx, 0, none⟩ = some (.string s) := (hb3.cell bl2).trans c2
    have bl3 := Nat.lt_of_lt_of_le bl2 hb3.size
    have B3 := B2.trans (hb3.mono B2.size)
    clear hbW G2 c2 bl2 B2 hb3
    cases bW
    · go_wp2_with fail
      refine (IsName_any p w3 G3).mono ?_
      rintro e w4 ⟨rfl, hb4⟩
      obtain ⟨bN, hbN⟩ : ∃ b, b = Lx.isName p.data.toList := ⟨_, rfl⟩
      rw [← hbN]
      have HN : Hid (Lx.isName (s.data.toList.takeWhile Lx.isPt) = bN) := by show _ = _; rw [hbN, HP.out]
      have G4 := G3.below hb4
      have c4 : w4.cell? ⟨bx, 0, none⟩ = some (.string s) := (hb4.cell bl3).trans c3
      have bl4 := Nat.lt_of_lt_of_le bl3 hb4.size
      have B4 := B3.trans (hb4.mono B3.size)
      clear hbN G3 c3 bl3 B3 hb4
      cases bN
      · by_cases hpe : p.toList = []
        · have hpe2 : (!p.toList.isEmpty) = false := by simp [hpe]
          have HPE : Hid (s.data.toList.takeWhile Lx.isPt = []) := by show _ = _; rw [← HP.out]; exact toList_nil.1 hpe
          obtain ⟨sb, so, sc, g1, g2⟩ := G4.signs
          have HS : Hid _ := first_sign HE.out HPE.out
          have HP1 : PredAt Tryd.prog 31 #[.pointer (some ⟨bx, 0, none⟩)] (fun b : ByteArray => Value.string b) (fun y => Lib.hasPrefix s.data.toList y.data.toList) w4 := by
            intro W x hW
            refine (first1_any s x bx W ((hW.cell bl4).trans c4)).mono fun e w' ⟨he, hw⟩ => ⟨he, 0, ?_⟩
            rw [hw]; rfl
          have cI := Tryd.slices_IndexFunc (fun b : ByteArray => Value.string b) (fun y => Lib.hasPrefix s.data.toList y.data.toList) 31 #[.pointer (some ⟨bx, 0, none⟩)] eFirst1 sb so 16 sc signsB w4 HP1 (by decide) (by omega) (fun j hj => by
            rw [g2 j hj, signsB_get j hj])
          have hidx := Lx.idx_find (fun y : ByteArray => Lib.hasPrefix s.data.toList y.data.toList) default (signsB.take 16) 0
          have ht : signsB.take 16 = signsB := List.take_of_length_le (by decide)
          rw [ht] at hidx cI
          have hfs : Lx.signs.find? (·.isPrefixOf s.data.toList) = (signsB.find? (fun y => Lib.hasPrefix s.data.toList y.data.toList)).map (fun b => b.data.toList) := signsB_find s.data.toList
          unfold Lib.idxBy at cI
          rcases hidx with ⟨h1, h2⟩ | ⟨k, x, hk, h1, h2⟩
          · rw [h1] at cI
            have HF : Hid (Lx.first s.data.toList = .err 5) := by
              show _ = _
              rw [HS.out, hfs, h2]; rfl
            clear hfs h1 h2 ht g2 HP1 HS
            go_wp2_with fail
            refine cI.mono ?_
            rintro e w5 ⟨rfl, q, rfl⟩
            go_wp2_with fail
            go_ret3
            exact ⟨0, 5, ⟨#[]⟩, rfl, Or.inr ⟨by omega, HF.out⟩, below_drewN' B4 q⟩
          · rw [h1, Nat.zero_add] at cI
            have HF : Hid (Lx.first s.data.toList = .tok 4 x.data.toList) := by
              show _ = _
              rw [HS.out, hfs, h2]; rfl
            have hk16 : k < 16 := (List.getElem?_eq_some_iff.1 hk).1
            have gk := g2 k hk16
            have hx : (⟨(Lx.signs.getD k []).toArray⟩ : ByteArray) = x := by
              have := signsB_get k hk16
              rw [← this, getElem!_pos signsB k hk16]
              exact (List.getElem?_eq_some_iff.1 hk).2
            rw [hx] at gk
            have hk0 : (0 : Int) ≤ (k : Int) := by omega
            have hk1 : (k : Int) < 16 := by omega
            clear hfs h1 h2 ht g2 HP1 HS hx hk
            go_wp2_with fail
            refine cI.mono ?_
            rintro e w5 ⟨rfl, q, rfl⟩
            clear cI
            go_wp2_with fail
            go_quiet (fail)
            go_wp2_with fail
            go_ret3
            exact ⟨4, 0, x, rfl, Or.inl ⟨rfl, HF.out⟩, below_drewN' (below_drewN' B4 q) _⟩
        · have hpe2 : (!p.toList.isEmpty) = true := by simp [hpe]
          have HPE : Hid (s.data.toList.takeWhile Lx.isPt ≠ []) := by show _ ≠ _; rw [← HP.out]; exact fun h => hpe (toList_nil.2 h)
          go_wp2_with fail
          go_ret3
          exact ⟨0, 5, ⟨#[]⟩, rfl, Or.inr ⟨by omega, first_none HE.out HW.out HN.out HPE.out⟩, B4⟩
      · go_wp2_with fail
        go_ret3
        exact ⟨1, 0, p, rfl, Or.inl ⟨rfl, by rw [HP.out]; exact first_name HE.out HW.out HN.out⟩, B4⟩
    · go_wp2_with fail
      go_ret3
      exact ⟨3, 0, p, rfl, Or.inl ⟨rfl, by rw [HP.out]; exact first_word HE.out HW.out⟩, B3⟩
  · have he2 : (!d.toList.isEmpty) = true := by simp [he]
    have HE : Hid (s.data.toList.takeWhile Lx.isDig ≠ []) := by show _ ≠ _; rw [← HD.out]; exact fun h => he (toList_nil.2 h)
    have hall : d.data.toList.all Lx.isDig = true := by rw [HD.out]; exact List.all_takeWhile
    have hne : d.data.toList ≠ [] := fun h => he (toList_nil.2 h)
    have hsz := size_toList d
    have hpos : 0 < d.size := by rw [← hsz]; exact List.length_pos_iff.2 hne
    by_cases hl : 10 < d.size
    · have hm : (min (d.size : Int) 10).toNat = 10 := by omega
      obtain ⟨tb, htb⟩ : ∃ tb : ByteArray, tb = d.extract 0 10 := ⟨_, rfl⟩
      have hat : Lib.atoiAll tb.data.toList = .ok (Lx.val tb.data.toList : Int) := by
        have e : tb.data.toList = d.data.toList.take 10 := by rw [htb, extract_take]
        refine Lx.atoi_digits ?_ ?_ ?_
        · rw [e, List.all_eq_true]; intro x hx; exact List.all_eq_true.1 hall x (List.mem_of_mem_take hx)
        · rw [e]; intro h; have h2 : (d.data.toList.take 10).length = 0 := by rw [h]; rfl
          rw [List.length_take] at h2; omega
        · rw [e, List.length_take]; omega
      have htl : tb.size ≤ 10 := by rw [← size_toList, htb, extract_take, List.length_take]; omega
      have HBIG : Hid (Lx.tooBig d.data.toList = true) := by
        show _ = _
        unfold Lx.tooBig; rw [hsz]; simp [hl]
      generalize Lx.val tb.data.toList = v at hat
      clear htl hne hsz hall
      go_wp2_with fail
      rw [← htb]
      refine (Tryd.strconv_Atoi_ok tb (by rw [htb]; have := extract_take d 10; rw [← size_toList, this, List.length_take]; omega) v hat w1).mono ?_
      rintro e w2 ⟨rfl, hw2⟩
      have hb2 : Below w1.heap.size w1 w2 := by
        rcases hw2 with hw2 | ⟨t, hw2⟩
        · rw [hw2]; exact Below.refl _ _
        · rw [hw2]; exact Lib.bytesWorld_below _ _ _
      clear hw2 hat htb hm
      have B2 := B1.trans (hb2.mono B1.size)
      go_wp2_with fail
      go_ret3
      exact ⟨0, 2, ⟨#[]⟩, rfl, Or.inr ⟨by omega, by rw [first_dig HE.out, ← HD.out, HBIG.out]; rfl⟩, B2⟩
    · have hm : (min (d.size : Int) 10).toNat = d.size := by omega
      have hex : d.extract 0 d.size = d := by
        apply ByteArray.ext; simp
      have hat : Lib.atoiAll d.data.toList = .ok (Lx.val d.data.toList : Int) := Lx.atoi_digits hall hne (by omega)
      obtain ⟨v, hv⟩ : ∃ v, v = Lx.val d.data.toList := ⟨_, rfl⟩
      rw [← hv] at hat
      have TB : Hid (Lx.tooBig d.data.toList = true ↔ 10 < d.size ∨ 2147483647 < v ∨ (1 < d.size ∧ d[0] = 48)) := by
        have := tooBig_iff d.data.toList
        rw [hsz, ← hv, headD_byte d hpos] at this
        exact this
      have hl' : d.size ≤ 10 := by omega
      clear hne hsz hall hl hv
      go_wp2_with fail
      clear hex hm
      refine (Tryd.strconv_Atoi_ok d (by omega) v hat w1).mono ?_
      rintro e w2 ⟨rfl, hw2⟩
      have hb2 : Below w1.heap.size w1 w2 := by
        rcases hw2 with hw2 | ⟨t, hw2⟩
        · rw [hw2]; exact Below.refl _ _
        · rw [hw2]; exact Lib.bytesWorld_below _ _ _
      clear hw2 hat
      have B2 := B1.trans (hb2.mono B1.size)
      go_wp2_with fail
      · have h1 : (1 : Int) < (d.size : Int) := by assumption
        rename_i h
        have h48 : d[0] = 48 := by
          rcases h with h | h
          · omega
          · exact byte48.1 h
        have hT : Lx.tooBig d.data.toList = true := TB.out.2 (Or.inr (Or.inr ⟨by omega, h48⟩))
        clear h
        go_ret3
        exact ⟨0, 2, ⟨#[]⟩, rfl, Or.inr ⟨by omega, by rw [first_dig HE.out, ← HD.out, hT]; rfl⟩, B2⟩
      · rename_i h
        have hT : Lx.tooBig d.data.toList = false := by
          rw [← Bool.not_eq_true, TB.out]
          rintro (q | q | ⟨_, q⟩)
          · omega
          · omega
          · rw [byte48.2 q] at h; exact absurd h.2 (by simp)
        clear h
        go_ret3
        exact ⟨2, 0, d, rfl, Or.inl ⟨rfl, by rw [first_dig HE.out, ← HD.out, hT]; rfl⟩, B2⟩
      · have hT : Lx.tooBig d.data.toList = false := by
          rw [← Bool.not_eq_true, TB.out]
          rintro (q | q | ⟨q, _⟩)
          · omega
          · omega
          · omega
        go_ret3
        exact ⟨2, 0, d, rfl, Or.inl ⟨rfl, by rw [first_dig HE.out, ← HD.out, hT]; rfl⟩, B2⟩
      · have hT : Lx.tooBig d.data.toList = true := TB.out.2 (Or.inr (Or.inl (by omega)))
        go_ret3
        exact ⟨0, 2, ⟨#[]⟩, rfl, Or.inr ⟨by omega, by rw [first_dig HE.out, ← HD.out, hT]; rfl⟩, B2⟩
end Go.Proofs.YtmklieoikbgmpaaDoor
namespace Go.Proofs.YtmklieoikbgmpaaDoor
open Go.RowKit Go.Shelf
theorem trim_any (r : ByteArray) (w : World) :
    Calls Tryd.prog 9 #[.string r, .string ⟨#[32, 9, 10, 13]⟩] w fun e w' => ∃ u : ByteArray, e = .returned (.string u) ∧ u.data.toList = r.data.toList.dropWhile Lx.isBl ∧ Below w.heap.size w w' := by
  refine (Tryd.strings_TrimLeft_laid r ⟨#[32, 9, 10, 13]⟩ w (by decide) ?_).mono ?_
  · intro j b hb
    have : b ∈ ([32, 9, 10, 13] : List UInt8) := List.mem_of_getElem? hb
    simp at this
    rcases this with rfl | rfl | rfl | rfl <;> decide
  · rintro e w' ⟨rfl, hb⟩
    refine ⟨_, rfl, ?_, hb⟩
    show Lib.trimLeftS r.data.toList [32, 9, 10, 13] = _
    unfold Lib.trimLeftS
    congr 1
    funext c
    rw [Bool.eq_iff_iff]; simp [Lx.isBl, or_assoc]
theorem com_any (u : ByteArray) (w : World) :
    Calls Tryd.prog 10 #[.string u, .string ⟨#[45, 45]⟩] w fun e w' => e = .returned (.bool (Lx.isCom u.data.toList)) ∧ w' = w := Tryd.strings_HasPrefix u ⟨#[45, 45]⟩ w
theorem line_any (u : ByteArray) (hu : u.size ≤ 100000) (w : World) (G : Gl w) :
    Calls Tryd.prog 11 #[.string u, .string ⟨#[10]⟩] w fun e w' => ∃ (a t : ByteArray) (b : Bool), e = .returned (.tuple #[.string a, .string t, .bool b]) ∧ t.data.toList = Lx.afterLine u.data.toList ∧ Below w.heap.size w w' := by
  refine (Tryd.strings_Cut_shaped u ⟨#[10]⟩ w G.shaped (by omega)).mono ?_
  rintro e w' ⟨rfl, n, rfl⟩
  exact ⟨_, _, _, rfl, Lx.cut_line u.data.toList, below_drawn (Below.refl _ _) n⟩
set_option maxRecDepth 100000 in
set_option maxHeartbeats 2000000 in
theorem Lex_any (s : ByteArray) (hs : s.size ≤ 100000) (w : World) (G : Gl w) :
    Calls Tryd.prog 7 #[.string s] w (LexPost s w) := by
  have hR := heap_alloc_new w (.cells #[.int .i64 0, .int .i64 0] 29)
  go_enter Tryd.func7, Tryd.ntmps7
  go_wp2_with fail
  go_loopw [4, 5] (fun l rest wr => ∃ (r : ByteArray) (done : List Lx.R), rest = .string r ∧ LexLp s w l r done wr) (fun _ rest _ => strLen rest)
  case atStart => exact ⟨s, [], rfl, Nat.le_refl _, by simp, (Below.refl _ _).alloc (Nat.le_refl _) _, hR, World.ownsRow_nil _ _ _ _, by simp⟩
  case round =>
    obtain ⟨r, done, rfl, LP⟩ := hrel
    clear hR
    go_wp2_with fail
    refine (trim_any r wr).mono ?_
    rintro e w1 ⟨u, rfl, hu, hb1⟩
    have hur : u.size ≤ r.size := by rw [size_of_list, size_of_list, hu]; exact Lx.blank_len _
    have LP1 : LexLp s w u4 u done w1 := LP.step hb1 hur (by rw [hu, ← Lx.lexS_drop])
    have HB : Hid (u.data.toList.dropWhile Lx.isBl = u.data.toList) := by show _ = _; rw [hu]; exact Lx.fix_drop _
    clear hu hb1 LP
    by_cases he : u.toList = []
    · have he2 : (!u.toList.isEmpty) = false := by simp [he]
      have HE : Hid (u.data.toList = []) := toList_nil.1 he
      obtain ⟨c0, c1, f0, f1⟩ := two_cells LP1.ret
      go_wp2_with fail
      refine bodyPost_ret (v := .tuple #[u4, .agg #[.int .i64 0, .int .i64 0]]) (by simp [results, Tryd.results7, go_sem, c0, c1]) rfl ?_
      have hq : Lx.lexS s.data.toList = (done, none) := by rw [LP1.eq, HE.out, Lx.lexS_nil]; simp
      refine ⟨_, _, _, rfl, (LP1.below.setCell (Nat.le_refl _) _).setCell (Nat.le_refl _) _, Or.inl ⟨rfl, rfl, by rw [hq], ?_⟩⟩
      rw [hq]
      exact (ownsRow_setCell_below (ownsRow_setCell_below LP1.own (by simp) _) (by simp) _).mono (by omega)
    have he2 : u.toList.isEmpty = false := by simp [he]
    have HE : Hid (u.data.toList ≠ []) := fun h => he (toList_nil.2 h)
    go_wp2_with fail
    refine (com_any u w1).mono ?_
    rintro e w2 ⟨rfl, hW⟩
    subst hW
    obtain ⟨bc, hbc⟩ : ∃ bc, bc = Lx.isCom u.data.toList := ⟨_, rfl⟩
    rw [← hbc]
    have HC : Hid (Lx.isCom u.data.toList = bc) := hbc.symm
    clear hbc
    have hsz := LP1.sz
    cases bc
    · obtain ⟨d, hd⟩ : ∃ d : Nat, (s.size : Int) - (u.size : Int) = (d : Int) := ⟨s.size - u.size, by omega⟩
      go_wp2_with fail
      refine (first_any u (by omega) w2 (G.below LP1.below)).mono ?_
      rintro e w3 ⟨k, er, t, rfl, hor, hb3⟩
      have LP3 := LP1.step hb3 (Nat.le_refl _) rfl
      clear LP1 hb3
      rcases hor with ⟨rfl, hf⟩ | ⟨hne, hf⟩
      · have hpr := (Lx.first_tok hf).1
        have htn : t.data.toList ≠ [] := (Lx.first_tok hf).2.resolve_right HE.out
        have htl : t.size ≤ u.size := by rw [size_of_list, size_of_list]; exact hpr.length_le
        have HT : Hid (Lx.lexS u.data.toList = _) := Lx.lexS_tok HB.out HE.out HC.out hf
        have HN : Hid (t.data.toList ≠ []) := htn
        have hfw := LP3.few
        have hlb := LP3.below.size
        have hre := (Array.getElem?_eq_some_iff.1 LP3.ret).1
        clear hpr htn hf
        go_wp2_with (at_builtin; refine wpList_app rowTok rfl _ _ rfl (w.heap.size + 1) _ _ _ rfl (LP3.own.alloc _) ⟨w3.heap.size, 0, none⟩ 1 [.int .i64 k, .string t, .int .i64 d] rfl rfl ?c1 ?c2 ?c3 ?c4 (w3.heap.size + 1) ?c5 ?_)
        case c1 => exact World.news_of_block (heap_alloc_new w3 _)
        case c2 => simp [Value.oneCell']
        case c3 => omega
        case c4 => simp; omega
        case c5 => simp
        intro g cap w4 hown hgrow hat hlt hcap
        have LP4 := LP3.push (u' := u.extract t.size u.size) hd HN.out htl HT.out (by rw [extract_drop, size_toList]) hown hgrow
        clear hown hgrow hat LP3 hfw hlb hre
        have hpos : 0 < t.size := by rw [size_of_list]; exact List.length_pos_iff.2 HN.out
        go_wp2_with fail
        go_roundw
        case rel => exact ⟨_, _, rfl, LP4⟩
        case measure => simp [strLen]; omega
      · have hne2 : ((er : Int) != 0) = true := by rw [bne_iff_ne]; omega
        obtain ⟨c0, c1, f0, f1⟩ := two_cells LP3.ret
        have HN : Hid (er ≠ 0) := hne
        have HT : Hid (Lx.lexS u.data.toList = _) := Lx.lexS_err HB.out HE.out HC.out hf
        clear hne hf
        go_wp2_with fail
        refine bodyPost_ret (v := .tuple #[.slice none 0 0, .agg #[.int .i64 er, .int .i64 d]]) (by simp [results, Tryd.results7, go_sem, c0, c1]) rfl ?_
        have hq : (Lx.lexS s.data.toList).2 = some (er, u.data.toList.length) := by rw [LP3.eq, HT.out]
        exact ⟨_, _, _, rfl, (LP3.below.setCell (Nat.le_refl _) _).setCell (Nat.le_refl _) _, Or.inr ⟨er, _, HN.out, rfl, by rw [size_toList]; omega, hq, rfl⟩⟩
    · go_wp2_with fail
      refine (line_any u (by omega) w2 (G.below LP1.below)).mono ?_
      rintro e w3 ⟨a, t, b, rfl, ht, hb3⟩
      have htu : t.size < u.size := by rw [size_of_list, size_of_list, ht]; exact Lx.after_len HE.out
      have LP3 : LexLp s w u4 t done w3 := LP1.step hb3 (Nat.le_of_lt htu) (by rw [ht, ← Lx.lexS_com HB.out HE.out HC.out])
      clear LP1 hb3 ht
      go_wp2_with fail
      go_roundw
      case rel => exact ⟨t, done, rfl, LP3⟩
      case measure => simp [strLen]; omega
end Go.Proofs.YtmklieoikbgmpaaDoor
