/- Tokens in memory; the small functions of the lexer. -/
import Derived.Test.YthnofhobhkcpfaaDoorProg
import Derived.Test.YthnofhobhkcpfaaDoorKc
import Derived.Test.YthnofhobhkcpfaaDoorShelf
import Derived.WalkKit
import Derived.WalkSpells
import Derived.WalkLawsBesides
import Derived.Outline
namespace Go.Proofs.YthnofhobhkcpfaaDoor
open Go.RowKit Go.Shelf

theorem ret_bool {a b : Bool} (h : a = b) : Ending.returned (.bool a) = .returned (.bool b) := by rw [h]

/-! ### digits, letters, parts of names -/
def digN (x : Nat) : Bool := decide (48 ≤ x ∧ x ≤ 57)
def letN (x : Nat) : Bool := decide ((97 ≤ x ∧ x ≤ 122) ∨ x = 95)
def partN (x : Nat) : Bool := letN x || digN x

set_option maxHeartbeats 400000 in
theorem isDigit_any (x : Nat) (w : World) :
    Calls Tryd.prog 26 #[.int .i32 x] w fun e w' => e = .returned (.bool (digN x)) ∧ w' = w := by
  go_enter Tryd.func26, Tryd.ntmps26
  go_wp2_with fail
  all_goals
    go_ret
    exact ⟨ret_bool (by rw [Bool.eq_iff_iff]; simp [digN]; omega), rfl⟩

set_option maxHeartbeats 400000 in
theorem isLetter_any (x : Nat) (w : World) :
    Calls Tryd.prog 48 #[.int .i32 x] w fun e w' => e = .returned (.bool (letN x)) ∧ w' = w := by
  by_cases h1 : (97 : Int) ≤ (x : Int)
  · by_cases h2 : (x : Int) ≤ 122
    · go_enter Tryd.func48, Tryd.ntmps48
      go_wp2_with fail
      all_goals
        go_ret
        exact ⟨ret_bool (by rw [Bool.eq_iff_iff]; simp [letN]; omega), rfl⟩
    · go_enter Tryd.func48, Tryd.ntmps48
      go_wp2_with fail
      all_goals
        go_ret
        exact ⟨ret_bool (by rw [Bool.eq_iff_iff]; simp [letN]; omega), rfl⟩
  · go_enter Tryd.func48, Tryd.ntmps48
    go_wp2_with fail
    all_goals
      go_ret
      exact ⟨ret_bool (by rw [Bool.eq_iff_iff]; simp [letN]; omega), rfl⟩

set_option maxHeartbeats 400000 in
theorem isPart_any (x : Nat) (w : World) :
    Calls Tryd.prog 25 #[.int .i32 x] w fun e w' => e = .returned (.bool (partN x)) ∧ w' = w := by
  obtain ⟨b, hb⟩ : ∃ b, b = letN x := ⟨_, rfl⟩
  have cL := isLetter_any x w
  rw [← hb] at cL
  have HB : Hid (b = letN x) := hb
  clear hb
  go_enter Tryd.func25, Tryd.ntmps25
  go_wp2_with fail
  refine cL.mono ?_
  rintro e w1 ⟨rfl, hW⟩
  subst hW
  cases b
  · go_wp2_with fail
    refine (isDigit_any x w1).mono ?_
    rintro e w2 ⟨rfl, hW⟩
    subst hW
    go_wp2_with fail
    go_ret
    exact ⟨ret_bool (by unfold partN; rw [← HB.out]; rfl), rfl⟩
  · go_wp2_with fail
    go_ret
    exact ⟨ret_bool (by unfold partN; rw [← HB.out]; rfl), rfl⟩

theorem digN_byte (c : UInt8) : digN c.toNat = Lx.isDig c := by
  rw [Bool.eq_iff_iff]; simp [digN, Lx.isDig, UInt8.le_iff_toNat_le]
theorem letN_byte (c : UInt8) : letN c.toNat = Lx.isLet c := by
  rw [Bool.eq_iff_iff]; simp [letN, Lx.isLet, UInt8.le_iff_toNat_le, ← UInt8.toNat_inj]
theorem partN_byte (c : UInt8) : partN c.toNat = Lx.isPt c := by
  unfold partN Lx.isPt; rw [digN_byte, letN_byte]
theorem high_no (x : Nat) (h : 128 ≤ x) : digN x = false ∧ partN x = false := by
  have a : digN x = false := by simp [digN]; omega
  have b : letN x = false := by simp [letN]; omega
  exact ⟨a, by unfold partN; rw [a, b]; rfl⟩

/-! ### row -/
theorem row1_any (g : Nat) (p : Nat → Bool) (hp : ∀ x w, Calls Tryd.prog g #[.int .i32 (x : Nat)] w fun e w' => e = .returned (.bool (p x)) ∧ w' = w)
    (eg : ∀ args w, (callFunc g args).run Tryd.prog w = .ok (.enter g args) w) (x b : Nat) (w : World) (hc : w.cell? ⟨b, 0, none⟩ = some (.func (.func g) #[] #[])) :
    Calls Tryd.prog 47 #[.int .i32 x, .pointer (some ⟨b, 0, none⟩)] w fun e w' => e = .returned (.bool (!p x)) ∧ w' = w := by
  go_enter Tryd.func47, Tryd.ntmps47
  go_wp2_with fail
  refine (hp x w).mono ?_
  rintro e w1 ⟨rfl, hW⟩
  subst hW
  go_wp2_with fail
  go_ret
  exact ⟨rfl, rfl⟩

theorem size_toList (s : ByteArray) : s.data.toList.length = s.size := by rw [Array.length_toList]; rfl
theorem extract_take (s : ByteArray) (n : Nat) : (s.extract 0 n).data.toList = s.data.toList.take n := by simp
theorem extract_drop (s : ByteArray) (n : Nat) : (s.extract n s.size).data.toList = s.data.toList.drop n := by
  rw [ByteArray.data_extract, Array.toList_extract, List.extract_eq_take_drop, ← size_toList]
  rw [List.take_of_length_le (by simp)]

set_option maxHeartbeats 1000000 in
theorem row_any (g : Nat) (p : Nat → Bool) (q : UInt8 → Bool) (hp : ∀ x w, Calls Tryd.prog g #[.int .i32 (x : Nat)] w fun e w' => e = .returned (.bool (p x)) ∧ w' = w)
    (eg : ∀ args w, (callFunc g args).run Tryd.prog w = .ok (.enter g args) w) (hlow : ∀ c : UInt8, p c.toNat = q c) (hhigh : ∀ x, 128 ≤ x → p x = false) (s : ByteArray) (_hs : s.size ≤ 100000) (w : World) :
    Calls Tryd.prog 24 #[.string s, .func (.func g) #[] #[]] w fun e w' => ∃ t : ByteArray, e = .returned (.string t) ∧ t.data.toList = s.data.toList.takeWhile q ∧ Below w.heap.size w w' := by
  have hq : ∀ c : UInt8, 128 ≤ c.toNat → q c = false := fun c h => by rw [← hlow]; exact hhigh _ h
  have er : ∀ args w, (callFunc 47 args).run Tryd.prog w = .ok (.enter 47 args) w := enters_of Tryd.func47 (by kernel_rfl) rfl
  have bw : Below w.heap.size w (w.alloc (.cells #[.func (.func g) #[] #[]] 45)) := (Below.refl _ _).alloc (Nat.le_refl _) _
  have cc : (w.alloc (.cells #[.func (.func g) #[] #[]] 45)).cell? ⟨w.heap.size, 0, none⟩ = some (.func (.func g) #[] #[]) := by
    rw [cell_of_row _ _ 0 _ _ _ (heap_alloc_new w _)]; rfl
  have HP : PredAt Tryd.prog 47 #[.pointer (some ⟨w.heap.size, 0, none⟩)] encR (fun x => !p x) (w.alloc (.cells #[.func (.func g) #[] #[]] 45)) := by
    intro W x hW
    have hc : W.cell? ⟨w.heap.size, 0, none⟩ = some (.func (.func g) #[] #[]) := (hW.cell (by show w.heap.size < (w.heap.push _).size; simp)).trans cc
    refine (row1_any g p hp eg x w.heap.size W hc).mono fun e w' ⟨he, hw⟩ => ⟨he, 0, ?_⟩
    rw [hw]; rfl
  have cI := Tryd.strings_IndexFunc 47 #[.pointer (some ⟨w.heap.size, 0, none⟩)] er (fun x => !p x) s _ HP
  rw [Lx.idx_row p q (fun c _ => hlow c) hhigh hq s] at cI
  obtain ⟨n, hn⟩ : ∃ n, n = (s.data.toList.takeWhile q).length := ⟨_, rfl⟩
  have hle : n ≤ s.size := by rw [hn, ← size_toList]; exact (List.takeWhile_prefix q).length_le
  have HN : Hid (n = (s.data.toList.takeWhile q).length) := hn
  rw [← hn] at cI
  clear hn HP hq hhigh hlow
  by_cases h : n = s.size
  · rw [if_pos h] at cI
    have HA : Hid (n = s.size) := h
    clear h
    go_enter Tryd.func24, Tryd.ntmps24
    go_wp2_with fail
    refine cI.mono ?_
    rintro e w1 ⟨rfl, hb1⟩
    go_wp2_with fail
    go_ret
    refine ⟨s, rfl, ?_, bw.trans (hb1.mono bw.size)⟩
    have h1 := HN.out
    rw [HA.out, ← size_toList] at h1
    exact ((List.takeWhile_prefix q).eq_of_length h1.symm).symm
  · rw [if_neg h] at cI
    have hlt : n < s.size := by omega
    clear h
    go_enter Tryd.func24, Tryd.ntmps24
    go_wp2_with fail
    refine cI.mono ?_
    rintro e w1 ⟨rfl, hb1⟩
    go_wp2_with fail
    go_ret
    refine ⟨_, rfl, ?_, bw.trans (hb1.mono bw.size)⟩
    rw [extract_take, HN.out]
    exact (List.prefix_iff_eq_take.1 (List.takeWhile_prefix q)).symm

theorem headD_byte (s : ByteArray) (h : 0 < s.size) : s.data.toList.headD 0 = s[0] := by
  rw [List.headD_eq_head?_getD, List.head?_eq_getElem?, List.getElem?_eq_getElem (by rw [size_toList]; exact h)]; rfl
theorem eDigit : ∀ args w, (callFunc 26 args).run Tryd.prog w = .ok (.enter 26 args) w := enters_of Tryd.func26 (by kernel_rfl) rfl
theorem ePart : ∀ args w, (callFunc 25 args).run Tryd.prog w = .ok (.enter 25 args) w := enters_of Tryd.func25 (by kernel_rfl) rfl

theorem row_digit (s : ByteArray) (hs : s.size ≤ 100000) (w : World) :
    Calls Tryd.prog 24 #[.string s, .func (.func 26) #[] #[]] w fun e w' => ∃ t : ByteArray, e = .returned (.string t) ∧ t.data.toList = s.data.toList.takeWhile Lx.isDig ∧ Below w.heap.size w w' :=
  row_any _ digN Lx.isDig isDigit_any eDigit digN_byte (fun x h => (high_no x h).1) s hs w
theorem row_part (s : ByteArray) (hs : s.size ≤ 100000) (w : World) :
    Calls Tryd.prog 24 #[.string s, .func (.func 25) #[] #[]] w fun e w' => ∃ t : ByteArray, e = .returned (.string t) ∧ t.data.toList = s.data.toList.takeWhile Lx.isPt ∧ Below w.heap.size w w' :=
  row_any _ partN Lx.isPt isPart_any ePart partN_byte (fun x h => (high_no x h).2) s hs w

/-! ### the listed variables -/
/-- What is known of the program's variables. -/
structure Gl (W : World) : Prop where
  words : ∃ b o c, W.cell? ⟨0, 0, none⟩ = some (.slice (some ⟨b, o, none⟩) 35 c) ∧ ∀ j, j < 35 → W.cell? ⟨b, o + j, none⟩ = some (.string ⟨(Lx.words.getD j []).toArray⟩)
  signs : ∃ b o c, W.cell? ⟨1, 0, none⟩ = some (.slice (some ⟨b, o, none⟩) 16 c) ∧ ∀ j, j < 16 → W.cell? ⟨b, o + j, none⟩ = some (.string ⟨(Lx.signs.getD j []).toArray⟩)
  shaped : W.ShapedOpen Tryd.prog

theorem Gl.below {w w' : World} (h : Gl w) (hb : Below w.heap.size w w') : Gl w' := by
  have kc : ∀ {a : Addr} {v : Value}, w.cell? a = some v → w'.cell? a = some v := fun {a v} q => (hb.cell (World.block_lt_of_cell? w a q)).trans q
  obtain ⟨b, o, c, h1, h2⟩ := h.words
  obtain ⟨b', o', c', h3, h4⟩ := h.signs
  exact ⟨⟨b, o, c, kc h1, fun j hj => kc (h2 j hj)⟩, ⟨b', o', c', kc h3, fun j hj => kc (h4 j hj)⟩, h.shaped.keptBut (hb.frame (fun _ => False)) (fun _ q => q.elim)⟩

set_option maxHeartbeats 400000 in
theorem IsWord_any (s : ByteArray) (w : World) (G : Gl w) :
    Calls Tryd.prog 15 #[.string s] w fun e w' => e = .returned (.bool (Lx.isWord s.data.toList)) ∧ Below w.heap.size w w' := by
  obtain ⟨b, o, c, h1, h2⟩ := G.words
  have cB := Tryd.slices_BinarySearch_string b o 35 c (fun j => ⟨(Lx.words.getD j []).toArray⟩) s w (by omega) h2
  have key : decide (Lib.bsGo (fun t => Op.bytesLess (⟨(Lx.words.getD t []).toArray⟩ : ByteArray).toList s.toList) 35 0 35 < 35 ∧ (⟨(Lx.words.getD (Lib.bsGo (fun t => Op.bytesLess (⟨(Lx.words.getD t []).toArray⟩ : ByteArray).toList s.toList) 35 0 35) []).toArray⟩ : ByteArray) = s) = Lx.isWord s.data.toList := by
    have h := Lx.search_is Lx.words Lx.words_sorted s.data.toList
    have e1 : ∀ l : List UInt8, (⟨l.toArray⟩ : ByteArray).toList = l := fun l => by rw [Lib.toList_data]
    have e2 : ∀ l : List UInt8, (⟨l.toArray⟩ : ByteArray) = s ↔ l = s.data.toList := fun l => ⟨fun h => by rw [← h], fun h => by rw [h]⟩
    simp only [e1, e2]
    exact h
  rw [key] at cB
  clear key h2
  go_enter Tryd.func15, Tryd.ntmps15
  go_wp2_with fail
  refine cB.mono ?_
  rintro e w1 ⟨rfl, q, rfl⟩
  go_wp2_with fail
  go_ret
  exact ⟨rfl, below_drewN' (Below.refl _ _) q⟩

set_option maxHeartbeats 400000 in
theorem IsName_any (s : ByteArray) (w : World) (G : Gl w) :
    Calls Tryd.prog 13 #[.string s] w fun e w' => e = .returned (.bool (Lx.isName s.data.toList)) ∧ Below w.heap.size w w' := by
  by_cases he : s.toList = []
  · have HF : Hid (Lx.isName s.data.toList = false) := by
      show _ = _
      rw [← Lib.toList_data, he]; rfl
    have he2 : (!s.toList.isEmpty) = false := by simp [he]
    go_enter Tryd.func13, Tryd.ntmps13
    go_wp2_with fail
    go_ret
    exact ⟨ret_bool HF.out.symm, Below.refl _ _⟩
  have he2 : (!s.toList.isEmpty) = true := by simp [he]
  have hpos : 0 < s.size := by
    rw [Lib.toList_data] at he
    have := List.length_pos_iff.2 he
    rwa [size_toList] at this
  by_cases hl : 40 < s.size
  · have HF : Hid (Lx.isName s.data.toList = false) := by
      show _ = _
      unfold Lx.isName
      rw [size_toList]
      have : decide (s.size ≤ 40) = false := by simp; omega
      rw [this]; simp
    go_enter Tryd.func13, Tryd.ntmps13
    go_wp2_with fail
    go_ret
    exact ⟨ret_bool HF.out.symm, Below.refl _ _⟩
  have hl' : s.size ≤ 40 := by omega
  have HE : Hid (s.data.toList ≠ []) := by rw [Lib.toList_data] at he; exact he
  clear hl
  go_enter Tryd.func13, Tryd.ntmps13
  go_wp2_with fail
  refine (row_part s (by omega) w).mono ?_
  rintro e w1 ⟨t, rfl, ht, hb1⟩
  have HT : Hid (t.data.toList = s.data.toList.takeWhile Lx.isPt) := ht
  have G1 := G.below hb1
  clear ht G
  by_cases hts : t.toList = s.toList
  · have HTS : Hid (s.data.toList.takeWhile Lx.isPt = s.data.toList) := by
      show _ = _
      rw [Lib.toList_data, Lib.toList_data] at hts
      rw [← HT.out]; exact hts
    go_wp2_with fail
    have hw : wrap32 ((s[0].toNat : Nat) : Int) = ((s[0].toNat : Nat) : Int) := by
      have := s[0].toNat_lt
      unfold wrap32; omega
    rw [hw]
    refine (isDigit_any s[0].toNat w1).mono ?_
    rintro e w2 ⟨rfl, hW⟩
    subst hW
    have HD : Hid (digN s[0].toNat = Lx.isDig (s.data.toList.headD 0)) := by
      show _ = _
      rw [digN_byte]
      have : s.data.toList.headD 0 = s[0] := by
        exact headD_byte s hpos
      rw [this]
    clear hw
    generalize digN s[0].toNat = b at HD ⊢
    cases b
    · go_wp2_with fail
      refine (IsWord_any s w2 G1).mono ?_
      rintro e w3 ⟨rfl, hb3⟩
      go_wp2_with fail
      go_ret
      refine ⟨ret_bool ?_, hb1.trans (hb3.mono hb1.size)⟩
      rw [Lx.name_yes HE.out (by rw [size_toList]; omega) HTS.out, ← HD.out]; rfl
    · go_wp2_with fail
      go_ret
      refine ⟨ret_bool ?_, hb1⟩
      rw [Lx.name_yes HE.out (by rw [size_toList]; omega) HTS.out, ← HD.out]; rfl
  · have HTS : Hid (s.data.toList.takeWhile Lx.isPt ≠ s.data.toList) := by
      show _ ≠ _
      rw [Lib.toList_data, Lib.toList_data] at hts
      rw [← HT.out]; exact hts
    go_wp2_with fail
    go_ret
    refine ⟨ret_bool ?_, hb1⟩
    rw [Lx.name_no HTS.out]
end Go.Proofs.YthnofhobhkcpfaaDoor
