/- The program's reader of expressions: its memory; signs and words: the walk. The program's reader of expressions: what stands here; what is passed; expressions put together: the walk. The tables of the program's reader of expressions: levels, prefixes: the walk. (Printed by gen/explev.py.) -/
import Derived.Test.YtahalimekacliaaGreatDoorJ8
import Derived.Test.YtahalimekacliaaGreatDoorJ10
set_option linter.unusedVariables false
set_option linter.unusedSimpArgs false
namespace Go.Proofs.YtahalimekacliaaGreatDoor
open Go.RowKit Go.Shelf Tx Px
def Re (w : World) (rb : Nat) (tv : Value) (I o c p : Int) (lv pm : Value) : Prop := Blk w rb #[tv, .int .i64 I, .int .i64 o, .int .i64 c, .int .i64 p, lv, pm] 137
section
variable {W W' : World} {rb : Nat} {tv lv pm : Value} {I o c p : Int}
theorem Re.cells (h : Re W rb tv I o c p lv pm) : W.cell? ⟨rb, 0, none⟩ = some tv ∧ W.cell? ⟨rb, 1, none⟩ = some (.int .i64 I) ∧ W.cell? ⟨rb, 2, none⟩ = some (.int .i64 o) ∧ W.cell? ⟨rb, 3, none⟩ = some (.int .i64 c) ∧ W.cell? ⟨rb, 4, none⟩ = some (.int .i64 p) ∧ W.cell? ⟨rb, 5, none⟩ = some lv ∧ W.cell? ⟨rb, 6, none⟩ = some pm := by
  unfold Re Blk at h
  refine ⟨?_, ?_, ?_, ?_, ?_, ?_, ?_⟩ <;> simp [World.cell?, h]
theorem Re.free (h : Re W rb tv I o c p lv pm) : W.frozen? ⟨rb, 0, none⟩ = false ∧ W.frozen? ⟨rb, 1, none⟩ = false ∧ W.frozen? ⟨rb, 2, none⟩ = false ∧ W.frozen? ⟨rb, 3, none⟩ = false ∧ W.frozen? ⟨rb, 4, none⟩ = false := by
  unfold Re Blk at h
  refine ⟨?_, ?_, ?_, ?_, ?_⟩ <;> simp [World.frozen?, h]
theorem Re.lt (h : Re W rb tv I o c p lv pm) : rb < W.heap.size := Blk.lt h
theorem Re.setI (h : Re W rb tv I o c p lv pm) (y : Int) : Re (W.setCell ⟨rb, 1, none⟩ (.int .i64 y)) rb tv y o c p lv pm := by
  have := Blk.setAt h 1 (.int .i64 y); unfold Re; simpa using this
theorem Re.setO (h : Re W rb tv I o c p lv pm) (y : Int) : Re (W.setCell ⟨rb, 2, none⟩ (.int .i64 y)) rb tv I y c p lv pm := by
  have := Blk.setAt h 2 (.int .i64 y); unfold Re; simpa using this
theorem Re.setC (h : Re W rb tv I o c p lv pm) (y : Int) : Re (W.setCell ⟨rb, 3, none⟩ (.int .i64 y)) rb tv I o y p lv pm := by
  have := Blk.setAt h 3 (.int .i64 y); unfold Re; simpa using this
theorem Re.setP (h : Re W rb tv I o c p lv pm) (y : Int) : Re (W.setCell ⟨rb, 4, none⟩ (.int .i64 y)) rb tv I o c y lv pm := by
  have := Blk.setAt h 4 (.int .i64 y); unfold Re; simpa using this
theorem Re.drewN (h : Re W rb tv I o c p lv pm) (q : Nat) : Re (W.drewN q) rb tv I o c p lv pm := h
theorem Re.drew (h : Re W rb tv I o c p lv pm) : Re W.drew rb tv I o c p lv pm := h
theorem Re.below (h : Re W rb tv I o c p lv pm) (hb : Below W.heap.size W W') : Re W' rb tv I o c p lv pm := Blk.below h hb
end
section
variable {L : List Tok} {a : Option Addr} {cc rb : Nat} {w0 : World} {lv pm : Value}
set_option maxRecDepth 100000 in
set_option maxHeartbeats 1000000 in
theorem eAt_any (EV : Hid (EnvOk w0 rb a cc L)) (i : Nat) (hi : i ≤ 200000) (w : World) (hB : Al rb w0 w) :
    Calls Tryz.prog 45 #[.slice a L.length cc, .int .i64 i] w fun e w' => e = .returned (.int .i64 (atP L i)) ∧ w' = w := by
  have hi0 : ¬ ((i : Int) < 0) := by omega
  have hi1 : (0 : Int) ≤ (i : Int) := by omega
  have hcap := EV.out.cap
  by_cases h : i < L.length
  · obtain ⟨x, hx⟩ : ∃ x, L[i]? = some x := ⟨_, List.getElem?_eq_getElem h⟩
    have e := atP_lt hx
    rw [e]
    obtain ⟨b, q, rfl, -, -, c2⟩ := EV.out.tok w hB i x hx
    have h2 : (i : Int) < (L.length : Int) := by omega
    clear hB hx e EV
    go_enter Tryz.func45, Tryz.ntmps45
    go_wp2_with fail
    go_ret
    exact ⟨rfl, rfl⟩
  · rw [atP_ge (by omega)]
    have h2 : (L.length : Int) ≤ (i : Int) := by omega
    clear hB EV
    go_enter Tryz.func45, Tryz.ntmps45
    go_wp2_with fail
    go_ret
    exact ⟨rfl, rfl⟩
theorem eok_any (I o c p : Int) (tv : Value) (w : World) (hR : Re w rb tv I o c p lv pm) :
    Calls Tryz.prog 105 #[.pointer (some ⟨rb, 0, none⟩)] w fun e w' => e = .returned (.bool (decide (c = 0))) ∧ w' = w := by
  obtain ⟨c0, c1, c2, c3, c4, c5, c6⟩ := hR.cells
  clear hR
  go_enter Tryz.func105, Tryz.ntmps105
  go_wp2_with fail
  go_ret
  exact ⟨ret_bool (by rw [Bool.eq_iff_iff]; simp), rfl⟩
set_option maxRecDepth 100000 in
set_option maxHeartbeats 1000000 in
theorem efail_yes (EV : Hid (EnvOk w0 rb a cc L)) (I : Nat) (hI : I ≤ 200000) (o p k : Int) (w : World) (hB : Al rb w0 w) (hR : Re w rb (.slice a L.length cc) I o 0 p lv pm) :
    Calls Tryz.prog 126 #[.pointer (some ⟨rb, 0, none⟩), .int .i64 k] w fun e w' => e = .returned (.slice none 0 0) ∧ Re w' rb (.slice a L.length cc) I o k (atP L I) lv pm ∧ Al rb w w' := by
  obtain ⟨c0, c1, c2, c3, c4, c5, c6⟩ := hR.cells
  obtain ⟨f0, f1, f2, f3, f4⟩ := hR.free
  have hlt := hR.lt
  have hok := eok_any I o 0 p _ w hR
  have hat : ∀ w', Al rb w0 w' → _ := fun w' h => eAt_any EV I hI w' h
  have HR := Lib.hid hR
  have HB := Lib.hid hB
  clear hR hB
  go_enter Tryz.func126, Tryz.ntmps126
  go_wp2_with fail
  refine hok.mono ?_
  rintro r w1 ⟨rfl, rfl⟩
  go_wp2_with fail
  go_still_tail 14, (by kernel_rfl)
  still_call (hat _ HB.out.drew)
  repeat still_step
  try refine wpStill_nil ?_
  clear hat hok
  change wpList _ _ _ _ _ w1.drew
  have HR2 : Hid (Re w1.drew rb (.slice a L.length cc) I o 0 p lv pm) := HR.out
  have hb2 : Al rb w1 w1.drew := (Al.refl _ _).drew
  have f3' : w1.drew.frozen? ⟨rb, 3, none⟩ = false := f3
  have f4' : w1.drew.frozen? ⟨rb, 4, none⟩ = false := f4
  have c3' : w1.drew.cell? ⟨rb, 3, none⟩ = some (.int .i64 0) := c3
  have c4' : w1.drew.cell? ⟨rb, 4, none⟩ = some (.int .i64 p) := c4
  clear c0 c1 c2 c3 c4 c5 c6 f0 f1 f2 f3 f4 HR HB EV
  generalize w1.drew = W at *
  go_wp2_with fail
  go_ret
  exact ⟨rfl, ((HR2.out.setC k).setP _), (hb2.set _ _).set _ _⟩
set_option maxRecDepth 100000 in
set_option maxHeartbeats 1000000 in
theorem efail_no (I o c p k : Int) (hc : c ≠ 0) (tv : Value) (w : World) (hR : Re w rb tv I o c p lv pm) :
    Calls Tryz.prog 126 #[.pointer (some ⟨rb, 0, none⟩), .int .i64 k] w fun e w' => e = .returned (.slice none 0 0) ∧ w' = w := by
  have hok := eok_any I o c p _ w hR
  rw [decide_eq_false hc] at hok
  clear hR
  go_enter Tryz.func126, Tryz.ntmps126
  go_wp2_with fail
  refine hok.mono ?_
  rintro r w1 ⟨rfl, rfl⟩
  go_wp2_with fail
  go_ret
  exact ⟨rfl, rfl⟩
end
end Go.Proofs.YtahalimekacliaaGreatDoor
namespace Go.Proofs.YtahalimekacliaaGreatDoor
open Go.RowKit Go.Shelf Tx Px
def hereS (c : Int) (L : List Tok) (I : Nat) : ByteArray := if c = 0 then (hereT L I).getD noS else noS
theorem hereS_yes {L : List Tok} {I : Nat} {s : ByteArray} (h : isT L I s = true) : hereS 0 L I = s := by
  unfold isT at h
  simp only [decide_eq_true_eq] at h
  unfold hereS; rw [h]; rfl
theorem hereS_no {c : Int} {L : List Tok} {I : Nat} {s : ByteArray} (hs : s ≠ noS) (h : isT L I s = false ∨ c ≠ 0) : hereS c L I ≠ s := by
  unfold hereS
  rcases h with h | h
  · unfold isT at h
    simp only [decide_eq_false_iff_not] at h
    split
    · cases hh : hereT L I with
      | none => exact fun e => hs e.symm
      | some t => rw [hh] at h; simpa using h
    · exact fun e => hs e.symm
  · rw [if_neg h]; exact fun e => hs e.symm
theorem ret_str {a b : ByteArray} (h : a = b) : Ending.returned (.string a) = .returned (.string b) := by rw [h]
section
variable {L : List Tok} {a : Option Addr} {cc rb : Nat} {w0 : World} {lv pm : Value}
set_option maxRecDepth 100000 in
set_option maxHeartbeats 4000000 in
theorem ehere_3 (EV : Hid (EnvOk w0 rb a cc L)) (I : Nat) (hI : I ≤ 200000) (o p : Int) (w : World) (hB : Al rb w0 w) (hR : Re w rb (.slice a L.length cc) I o 0 p lv pm) (x : Tok) (hx : L[I]? = some x) (hk : (x.k : Int) = 3) :
    Calls Tryz.prog 122 #[.pointer (some ⟨rb, 0, none⟩)] w fun e w' => e = .returned (.string (hereS 0 L I)) ∧ ∃ q, w' = w.drewN q := by
  obtain ⟨c0, c1, c2, c3, c4, c5, c6⟩ := hR.cells
  have hok : ∀ q, Calls Tryz.prog 105 #[.pointer (some ⟨rb, 0, none⟩)] (w.drewN q) fun e w' => e = .returned (.bool true) ∧ w' = w.drewN q := fun q => eok_any I o 0 p _ _ (hR.drewN q)
  have hi1 : (0 : Int) ≤ (I : Int) := by omega
  obtain ⟨b, q, rfl, d0, d1, d2⟩ := EV.out.tok w hB I x hx
  have hlt : I < L.length := (List.getElem?_eq_some_iff.1 hx).1
  have h2 : (I : Int) < (L.length : Int) := by omega
  have HF : Hid (hereS 0 L I = x.t) := by
    show _ = _
    have h34 : x.k = 3 ∨ x.k = 4 := by omega
    unfold hereS hereT; rw [hx]; simp [h34]
  rw [hk] at d0
  have hd1 : decide (L.length ≤ I) = false := by simp; omega
  have HCAP := Lib.hid EV.out.cap
  clear hB hx EV hR hk hI hlt
  go_enter Tryz.func122, Tryz.ntmps122
  go_wp2_with fail
  go_quiet ((go_at_call 105; exact Calls.quiet_of_same (hok _)))
  go_wp2_with fail
  go_quiet (fail)
  go_wp2_with fail
  go_ret
  exact ⟨ret_str HF.out.symm, _, by first | rw [World.drewN_drewN] | rfl⟩
set_option maxRecDepth 100000 in
set_option maxHeartbeats 4000000 in
theorem ehere_4 (EV : Hid (EnvOk w0 rb a cc L)) (I : Nat) (hI : I ≤ 200000) (o p : Int) (w : World) (hB : Al rb w0 w) (hR : Re w rb (.slice a L.length cc) I o 0 p lv pm) (x : Tok) (hx : L[I]? = some x) (hk : (x.k : Int) = 4) :
    Calls Tryz.prog 122 #[.pointer (some ⟨rb, 0, none⟩)] w fun e w' => e = .returned (.string (hereS 0 L I)) ∧ ∃ q, w' = w.drewN q := by
  obtain ⟨c0, c1, c2, c3, c4, c5, c6⟩ := hR.cells
  have hok : ∀ q, Calls Tryz.prog 105 #[.pointer (some ⟨rb, 0, none⟩)] (w.drewN q) fun e w' => e = .returned (.bool true) ∧ w' = w.drewN q := fun q => eok_any I o 0 p _ _ (hR.drewN q)
  have hi1 : (0 : Int) ≤ (I : Int) := by omega
  obtain ⟨b, q, rfl, d0, d1, d2⟩ := EV.out.tok w hB I x hx
  have hlt : I < L.length := (List.getElem?_eq_some_iff.1 hx).1
  have h2 : (I : Int) < (L.length : Int) := by omega
  have HF : Hid (hereS 0 L I = x.t) := by
    show _ = _
    have h34 : x.k = 3 ∨ x.k = 4 := by omega
    unfold hereS hereT; rw [hx]; simp [h34]
  rw [hk] at d0
  have hd1 : decide (L.length ≤ I) = false := by simp; omega
  have HCAP := Lib.hid EV.out.cap
  clear hB hx EV hR hk hI hlt
  go_enter Tryz.func122, Tryz.ntmps122
  go_wp2_with fail
  go_quiet ((go_at_call 105; exact Calls.quiet_of_same (hok _)))
  go_wp2_with fail
  go_quiet (fail)
  go_wp2_with fail
  go_ret
  exact ⟨ret_str HF.out.symm, _, by first | rw [World.drewN_drewN] | rfl⟩
set_option maxRecDepth 100000 in
set_option maxHeartbeats 4000000 in
theorem ehere_other (EV : Hid (EnvOk w0 rb a cc L)) (I : Nat) (hI : I ≤ 200000) (o p : Int) (w : World) (hB : Al rb w0 w) (hR : Re w rb (.slice a L.length cc) I o 0 p lv pm) (x : Tok) (hx : L[I]? = some x) (hk : x.k ≠ 3 ∧ x.k ≠ 4) :
    Calls Tryz.prog 122 #[.pointer (some ⟨rb, 0, none⟩)] w fun e w' => e = .returned (.string (hereS 0 L I)) ∧ ∃ q, w' = w.drewN q := by
  obtain ⟨c0, c1, c2, c3, c4, c5, c6⟩ := hR.cells
  have hok : ∀ q, Calls Tryz.prog 105 #[.pointer (some ⟨rb, 0, none⟩)] (w.drewN q) fun e w' => e = .returned (.bool true) ∧ w' = w.drewN q := fun q => eok_any I o 0 p _ _ (hR.drewN q)
  have hi1 : (0 : Int) ≤ (I : Int) := by omega
  obtain ⟨b, q, rfl, d0, d1, d2⟩ := EV.out.tok w hB I x hx
  have hlt : I < L.length := (List.getElem?_eq_some_iff.1 hx).1
  have h2 : (I : Int) < (L.length : Int) := by omega
  have HF : Hid (hereS 0 L I = noS) := by
    show _ = _
    unfold hereS hereT; rw [hx]; simp [hk]
  obtain ⟨k, hkk⟩ : ∃ k : Int, k = x.k := ⟨_, rfl⟩
  rw [← hkk] at d0
  have k3 : (k == 4) = false := by rw [beq_eq_false_iff_ne]; omega
  have k4 : (k == 3) = false := by rw [beq_eq_false_iff_ne]; omega
  have k5 : (k != 4) = true := by rw [bne_iff_ne]; omega
  have k6 : (k != 3) = true := by rw [bne_iff_ne]; omega
  have hd1 : decide (L.length ≤ I) = false := by simp; omega
  clear hB hx EV hR hk hI hlt hkk
  go_enter Tryz.func122, Tryz.ntmps122
  go_wp2_with fail
  go_quiet ((go_at_call 105; exact Calls.quiet_of_same (hok _)))
  go_wp2_with fail
  go_ret
  exact ⟨ret_str HF.out.symm, _, rfl⟩
set_option maxRecDepth 100000 in
set_option maxHeartbeats 4000000 in
theorem ehere_end (_EV : Hid (EnvOk w0 rb a cc L)) (I : Nat) (_hI : I ≤ 200000) (o p : Int) (w : World) (_hB : Al rb w0 w) (hR : Re w rb (.slice a L.length cc) I o 0 p lv pm) (h : L.length ≤ I) :
    Calls Tryz.prog 122 #[.pointer (some ⟨rb, 0, none⟩)] w fun e w' => e = .returned (.string (hereS 0 L I)) ∧ ∃ q, w' = w.drewN q := by
  obtain ⟨c0, c1, c2, c3, c4, c5, c6⟩ := hR.cells
  have hok : ∀ q, Calls Tryz.prog 105 #[.pointer (some ⟨rb, 0, none⟩)] (w.drewN q) fun e w' => e = .returned (.bool true) ∧ w' = w.drewN q := fun q => eok_any I o 0 p _ _ (hR.drewN q)
  have HF : Hid (hereS 0 L I = noS) := by
    show _ = _
    unfold hereS hereT; rw [List.getElem?_eq_none (by omega)]; rfl
  have hd1 : decide (L.length ≤ I) = true := by simp; omega
  clear _hB _EV hR h _hI
  go_enter Tryz.func122, Tryz.ntmps122
  go_wp2_with fail
  go_quiet ((go_at_call 105; exact Calls.quiet_of_same (hok _)))
  go_wp2_with fail
  go_ret
  exact ⟨ret_str HF.out.symm, _, rfl⟩
set_option maxRecDepth 100000 in
set_option maxHeartbeats 4000000 in
theorem ehere_bad (_EV : Hid (EnvOk w0 rb a cc L)) (I : Nat) (_hI : I ≤ 200000) (o c p : Int) (w : World) (_hB : Al rb w0 w) (hR : Re w rb (.slice a L.length cc) I o c p lv pm) (hc : c ≠ 0) :
    Calls Tryz.prog 122 #[.pointer (some ⟨rb, 0, none⟩)] w fun e w' => e = .returned (.string (hereS c L I)) ∧ ∃ q, w' = w.drewN q := by
  obtain ⟨c0, c1, c2, c3, c4, c5, c6⟩ := hR.cells
  have hok : ∀ q, Calls Tryz.prog 105 #[.pointer (some ⟨rb, 0, none⟩)] (w.drewN q) fun e w' => e = .returned (.bool false) ∧ w' = w.drewN q := fun q => by have h := eok_any I o c p (.slice a L.length cc) _ (hR.drewN q); rw [decide_eq_false hc] at h; exact h
  have HF : Hid (hereS c L I = noS) := by
    show _ = _
    unfold hereS; rw [if_neg hc]
  clear _hB _EV hR hc _hI
  go_enter Tryz.func122, Tryz.ntmps122
  go_wp2_with fail
  go_quiet ((go_at_call 105; exact Calls.quiet_of_same (hok _)))
  go_wp2_with fail
  go_ret
  exact ⟨ret_str HF.out.symm, _, rfl⟩
theorem ehere_any (EV : Hid (EnvOk w0 rb a cc L)) (I : Nat) (hI : I ≤ 200000) (o c p : Int) (w : World) (hB : Al rb w0 w) (hR : Re w rb (.slice a L.length cc) I o c p lv pm) :
    Calls Tryz.prog 122 #[.pointer (some ⟨rb, 0, none⟩)] w fun e w' => e = .returned (.string (hereS c L I)) ∧ ∃ q, w' = w.drewN q := by
  by_cases hc : c = 0
  · subst hc
    by_cases h : I < L.length
    · obtain ⟨x, hx⟩ : ∃ x, L[I]? = some x := ⟨_, List.getElem?_eq_getElem h⟩
      by_cases h3 : x.k = 3
      · exact ehere_3 EV I hI o p w hB hR x hx (by omega)
      by_cases h4 : x.k = 4
      · exact ehere_4 EV I hI o p w hB hR x hx (by omega)
      · exact ehere_other EV I hI o p w hB hR x hx ⟨h3, h4⟩
    · exact ehere_end EV I hI o p w hB hR (by omega)
  · exact ehere_bad EV I hI o c p w hB hR hc
set_option maxRecDepth 100000 in
set_option maxHeartbeats 1000000 in
theorem etake_yes (EV : Hid (EnvOk w0 rb a cc L)) (I : Nat) (hI : I ≤ 200000) (o p : Int) (s : ByteArray) (hs : isT L I s = true) (w : World) (hB : Al rb w0 w) (hR : Re w rb (.slice a L.length cc) I o 0 p lv pm) :
    Calls Tryz.prog 128 #[.pointer (some ⟨rb, 0, none⟩), .string s] w fun e w' => e = .returned (.bool true) ∧ Re w' rb (.slice a L.length cc) ((I : Int) + 1) o 0 p lv pm ∧ Al rb w w' := by
  have hh := ehere_any EV I hI o 0 p w hB hR
  rw [hereS_yes hs] at hh
  have HR := Lib.hid hR
  have heq : (s.toList == s.toList) = true := by simp
  clear hB hR EV
  go_enter Tryz.func128, Tryz.ntmps128
  go_wp2_with fail
  refine hh.mono ?_
  rintro r w2 ⟨rfl, q, hq⟩
  have hR2 : Re w2 rb (.slice a L.length cc) I o 0 p lv pm := by rw [hq]; exact HR.out.drewN q
  have hA2 : Al rb w w2 := by rw [hq]; exact (Al.refl _ _).drewN q
  obtain ⟨c0, c1, c2, c3, c4, c5, c6⟩ := hR2.cells
  obtain ⟨f0, f1, f2, f3, f4⟩ := hR2.free
  have HR2 := Lib.hid hR2
  clear hh hq hR2
  go_wp2_with fail
  go_ret
  have h := HR2.out.setI ((I : Int) + 1)
  exact ⟨rfl, h, hA2.set _ _⟩
set_option maxRecDepth 100000 in
set_option maxHeartbeats 1000000 in
theorem etake_no (EV : Hid (EnvOk w0 rb a cc L)) (I : Nat) (hI : I ≤ 200000) (o c p : Int) (s : ByteArray) (hs : s ≠ noS) (hn : isT L I s = false ∨ c ≠ 0) (w : World) (hB : Al rb w0 w) (hR : Re w rb (.slice a L.length cc) I o c p lv pm) :
    Calls Tryz.prog 128 #[.pointer (some ⟨rb, 0, none⟩), .string s] w fun e w' => e = .returned (.bool false) ∧ ∃ q, w' = w.drewN q := by
  have hh := ehere_any EV I hI o c p w hB hR
  have heq : ((hereS c L I).toList == s.toList) = false := by rw [bytes_eq, decide_eq_false (hereS_no hs hn)]
  clear hB hR EV hs hn
  go_enter Tryz.func128, Tryz.ntmps128
  go_wp2_with fail
  refine hh.mono ?_
  rintro r w2 ⟨rfl, q, rfl⟩
  clear hh
  go_wp2_with fail
  go_ret
  exact ⟨rfl, q, rfl⟩
set_option maxRecDepth 100000 in
set_option maxHeartbeats 1000000 in
theorem eneed_yes (EV : Hid (EnvOk w0 rb a cc L)) (I : Nat) (hI : I ≤ 200000) (o p : Int) (s : ByteArray) (hs : isT L I s = true) (w : World) (hB : Al rb w0 w) (hR : Re w rb (.slice a L.length cc) I o 0 p lv pm) :
    Calls Tryz.prog 131 #[.pointer (some ⟨rb, 0, none⟩), .string s] w fun e w' => e = .returned (.tuple #[]) ∧ Re w' rb (.slice a L.length cc) ((I : Int) + 1) o 0 p lv pm ∧ Al rb w w' := by
  have hh := etake_yes EV I hI o p s hs w hB hR
  clear hB hR EV hs
  go_enter Tryz.func131, Tryz.ntmps131
  go_wp2_with fail
  refine hh.mono ?_
  rintro r w1 ⟨rfl, hR, hA⟩
  clear hh
  go_wp2_with fail
  first | go_end0 | (refine bodyPost_ret (results_none rfl _ _ _) rfl ?_)
  exact ⟨rfl, hR, hA⟩
set_option maxRecDepth 100000 in
set_option maxHeartbeats 1000000 in
theorem eneed_no (EV : Hid (EnvOk w0 rb a cc L)) (I : Nat) (hI : I ≤ 200000) (o p : Int) (s : ByteArray) (hs : s ≠ noS) (hn : isT L I s = false) (w : World) (hB : Al rb w0 w) (hR : Re w rb (.slice a L.length cc) I o 0 p lv pm) :
    Calls Tryz.prog 131 #[.pointer (some ⟨rb, 0, none⟩), .string s] w fun e w' => e = .returned (.tuple #[]) ∧ Re w' rb (.slice a L.length cc) I o 5 (atP L I) lv pm ∧ Al rb w w' := by
  have hh := etake_no EV I hI o 0 p s hs (Or.inl hn) w hB hR
  have hf := fun q => efail_yes EV I hI o p 5 (w.drewN q) (hB.drewN q) (hR.drewN q)
  clear hB hR EV hs hn
  go_enter Tryz.func131, Tryz.ntmps131
  go_wp2_with fail
  refine hh.mono ?_
  rintro r w2 ⟨rfl, q, rfl⟩
  go_wp2_with fail
  refine (hf q).mono ?_
  rintro r w3 ⟨rfl, hR, hA⟩
  clear hh hf
  go_wp2_with fail
  first | go_end0 | (refine bodyPost_ret (results_none rfl _ _ _) rfl ?_)
  exact ⟨rfl, hR, ((Al.refl rb w).drewN q).next hA⟩
set_option maxRecDepth 100000 in
set_option maxHeartbeats 1000000 in
theorem eneed_fault (EV : Hid (EnvOk w0 rb a cc L)) (I : Nat) (hI : I ≤ 200000) (o c p : Int) (s : ByteArray) (hs : s ≠ noS) (hc : c ≠ 0) (w : World) (hB : Al rb w0 w) (hR : Re w rb (.slice a L.length cc) I o c p lv pm) :
    Calls Tryz.prog 131 #[.pointer (some ⟨rb, 0, none⟩), .string s] w fun e w' => e = .returned (.tuple #[]) ∧ ∃ q, w' = w.drewN q := by
  have hh := etake_no EV I hI o c p s hs (Or.inr hc) w hB hR
  have hf := fun q => efail_no I o c p 5 hc _ (w.drewN q) (hR.drewN q)
  clear hB hR EV hs hc
  go_enter Tryz.func131, Tryz.ntmps131
  go_wp2_with fail
  refine hh.mono ?_
  rintro r w2 ⟨rfl, q, rfl⟩
  go_wp2_with fail
  refine (hf q).mono ?_
  rintro r w3 ⟨rfl, rfl⟩
  clear hh hf
  go_wp2_with fail
  first | go_end0 | (refine bodyPost_ret (results_none rfl _ _ _) rfl ?_)
  exact ⟨rfl, q, rfl⟩
end
theorem ejoin_ok {rb : Nat} {lv pm : Value} (I o p : Int) (tv : Value) (op n : Int) (s : ByteArray) (Fs : List Fo) (v : Value) (w : World) (hR : Re w rb tv I o 0 p lv pm) (hv : Sg 1 IsF w v Fs) (h1 : ∀ F ∈ Fs, F.count = 1) (hz : (cat Fs).size + Fs.length ≤ 500000) (h28 : op ≠ 28) (har : op ≠ 27 → (kids (leaf op n s)).length = Fs.length) :
    Calls Tryz.prog 123 #[.pointer (some ⟨rb, 0, none⟩), .int .i64 op, .int .i64 n, .string s, v] w fun r w' => ∃ v', r = .returned v' ∧ OwnE w.heap.size w' v' ((joinF op n s Fs).flat 0) ∧ Below w.heap.size w w' := by
  have hok := eok_any I o 0 p _ w hR
  have hj := Join_any op n s Fs v w hv h1 hz h28 har
  clear hR hv h1 hz h28 har
  go_enter Tryz.func123, Tryz.ntmps123
  go_wp2_with fail
  refine hok.mono ?_
  rintro r w1 ⟨rfl, rfl⟩
  go_wp2_with fail
  refine hj.mono ?_
  rintro r w1 ⟨v', rfl, ho, hb⟩
  clear hok hj
  go_wp2_with fail
  go_ret
  exact ⟨v', rfl, ho, hb⟩
theorem ejoin_no {rb : Nat} {lv pm : Value} (I o c p : Int) (hc : c ≠ 0) (tv : Value) (op n : Int) (s : ByteArray) (v : Value) (w : World) (hR : Re w rb tv I o c p lv pm) :
    Calls Tryz.prog 123 #[.pointer (some ⟨rb, 0, none⟩), .int .i64 op, .int .i64 n, .string s, v] w fun r w' => r = .returned (.slice none 0 0) ∧ w' = w := by
  have hok := eok_any I o c p _ w hR
  rw [decide_eq_false hc] at hok
  clear hR hc
  go_enter Tryz.func123, Tryz.ntmps123
  go_wp2_with fail
  refine hok.mono ?_
  rintro r w1 ⟨rfl, rfl⟩
  clear hok
  go_wp2_with fail
  go_ret
  exact ⟨rfl, rfl⟩
end Go.Proofs.YtahalimekacliaaGreatDoor
namespace Go.Proofs.YtahalimekacliaaGreatDoor
open Go.RowKit Go.Shelf Tx Px
theorem keyText : KeyLaw' Tryz.prog 9 Value.string := keyLaw_str Tryz.underlying9
def lvl : Nat → List (ByteArray × Int)
  | 0 => [(⟨#[45, 62]⟩, 19)]
  | 1 => [(⟨#[61, 62]⟩, 9)]
  | 2 => [(⟨#[115, 105, 110, 99, 101]⟩, 20)]
  | 3 => [(⟨#[111, 114]⟩, 7), (⟨#[120, 111, 114]⟩, 8)]
  | 4 => [(⟨#[97, 110, 100]⟩, 6)]
  | 5 => [(⟨#[61]⟩, 10), (⟨#[60, 62]⟩, 11), (⟨#[60]⟩, 12), (⟨#[60, 61]⟩, 13), (⟨#[62]⟩, (-12)), (⟨#[62, 61]⟩, (-13))]
  | 6 => [(⟨#[43]⟩, 14), (⟨#[45]⟩, 15)]
  | 7 => [(⟨#[42]⟩, 16), (⟨#[100, 105, 118]⟩, 17), (⟨#[109, 111, 100]⟩, 18)]
  | _ => []
def preL : List (ByteArray × Int) := [(⟨#[110, 111, 116]⟩, 4), (⟨#[45]⟩, 5), (⟨#[112, 114, 101]⟩, 21), (⟨#[111, 110, 99, 101]⟩, 22), (⟨#[104, 105, 115, 116]⟩, 23), (⟨#[112, 114, 101, 118]⟩, 24), (⟨#[119, 105, 116, 104, 105, 110]⟩, 25)]
theorem look_lvl (n : Nat) (s : ByteArray) : Px.opAt n s = (look s (lvl n)).map fun v => if v < 0 then (-v, true) else (v, false) := by
  have hb : ∀ l : List UInt8, (s = bs l) = ((⟨l.toArray⟩ : ByteArray) = s) := fun l => by rw [eq_iff_iff]; exact ⟨fun h => h.symm, fun h => h.symm⟩
  match n with
  | 0 =>
    simp only [Px.opAt, lvl, look, hb]
    repeat' split
    all_goals first | rfl | (exfalso; simp_all; done)
  | 1 =>
    simp only [Px.opAt, lvl, look, hb]
    repeat' split
    all_goals first | rfl | (exfalso; simp_all; done)
  | 2 =>
    simp only [Px.opAt, lvl, look, hb]
    repeat' split
    all_goals first | rfl | (exfalso; simp_all; done)
  | 3 =>
    simp only [Px.opAt, lvl, look, hb]
    repeat' split
    all_goals first | rfl | (exfalso; simp_all; done)
  | 4 =>
    simp only [Px.opAt, lvl, look, hb]
    repeat' split
    all_goals first | rfl | (exfalso; simp_all; done)
  | 5 =>
    simp only [Px.opAt, lvl, look, hb]
    repeat' split
    all_goals first | rfl | (exfalso; simp_all; done)
  | 6 =>
    simp only [Px.opAt, lvl, look, hb]
    repeat' split
    all_goals first | rfl | (exfalso; simp_all; done)
  | 7 =>
    simp only [Px.opAt, lvl, look, hb]
    repeat' split
    all_goals first | rfl | (exfalso; simp_all; done)
  | n + 8 => rfl
theorem look_pre (s : ByteArray) : preAt s = look s preL := by
  have hb : ∀ l : List UInt8, (s = bs l) = ((⟨l.toArray⟩ : ByteArray) = s) := fun l => by rw [eq_iff_iff]; exact ⟨fun h => h.symm, fun h => h.symm⟩
  simp only [preAt, preL, look, hb]; repeat' split
  all_goals first | rfl | (exfalso; simp_all)
theorem lvl_bound {n : Nat} {s : ByteArray} {v : Int} (h : look s (lvl n) = some v) : -20 ≤ v ∧ v ≤ 20 ∧ v ≠ 0 := by
  have hm := look_mem h
  match n, hm with
  | 0, hm => simp only [lvl, List.mem_cons, Prod.mk.injEq, List.not_mem_nil, or_false] at hm; omega
  | 1, hm => simp only [lvl, List.mem_cons, Prod.mk.injEq, List.not_mem_nil, or_false] at hm; omega
  | 2, hm => simp only [lvl, List.mem_cons, Prod.mk.injEq, List.not_mem_nil, or_false] at hm; omega
  | 3, hm => simp only [lvl, List.mem_cons, Prod.mk.injEq, List.not_mem_nil, or_false] at hm; omega
  | 4, hm => simp only [lvl, List.mem_cons, Prod.mk.injEq, List.not_mem_nil, or_false] at hm; omega
  | 5, hm => simp only [lvl, List.mem_cons, Prod.mk.injEq, List.not_mem_nil, or_false] at hm; omega
  | 6, hm => simp only [lvl, List.mem_cons, Prod.mk.injEq, List.not_mem_nil, or_false] at hm; omega
  | 7, hm => simp only [lvl, List.mem_cons, Prod.mk.injEq, List.not_mem_nil, or_false] at hm; omega
  | n + 8, hm => simp [lvl] at hm
theorem look_noS (n : Nat) : look noS (lvl n) = none := by
  have h := look_lvl n noS
  match n with
  | 0 => decide
  | 1 => decide
  | 2 => decide
  | 3 => decide
  | 4 => decide
  | 5 => decide
  | 6 => decide
  | 7 => decide
  | n + 8 => rfl
def LvAt (lb : Nat) (ms : Nat → Nat) (w : World) : Prop := ∀ n, n < 8 → MapIs Value.string vI w (ms n) (lvl n) ∧ w.cell? ⟨lb, n * 3, none⟩ = some (.map (some (ms n))) ∧ w.cell? ⟨lb, n * 3 + 1, none⟩ = some (.bool (decide (n ≤ 1))) ∧ w.cell? ⟨lb, n * 3 + 2, none⟩ = some (.bool (decide (n = 5)))
theorem LvAt.fr {lb : Nat} {ms : Nat → Nat} {w w' : World} {S : Nat → Prop} (h : LvAt lb ms w) (hf : Fr S w w') (hs : ∀ k, k < w.heap.size → ¬ S k) : LvAt lb ms w' := fun n hn => by
  obtain ⟨h1, h2, h3, h4⟩ := h n hn
  have hl := World.block_lt_of_cell? w _ h2
  exact ⟨h1.of_block (hf.block _ h1.lt (hs _ h1.lt)), (hf.cell (p := ⟨lb, n * 3, none⟩) hl (hs _ hl)).trans h2, (hf.cell (p := ⟨lb, n * 3 + 1, none⟩) hl (hs _ hl)).trans h3, (hf.cell (p := ⟨lb, n * 3 + 2, none⟩) hl (hs _ hl)).trans h4⟩
theorem grown_below {B : Nat} {w w' : World} {row : Option Nat} (h : w.grownBy w' row) (hB : B ≤ w.heap.size) (hr : ∀ q, row = some q → B ≤ q) : Below B w w' :=
  ⟨h.os, h.tape, h.output, h.size, fun k hk => h.block k (by omega) (fun e => by have := hr k e.symm; omega)⟩
theorem below_made {w w' w2 : World} {m : Nat} {B : Nat} (h : Below B w w') (hB : B ≤ m) (hs : B ≤ w'.heap.size) (hg : w'.grownBy w2 (some m)) : Below B w w2 :=
  h.trans (grown_below hg hs (fun q hq => by cases hq; exact hB))
theorem map_past {κ ν : Type} {kc : κ → Value} {vc : ν → Value} {w w' : World} {m : Nat} {l : List (κ × ν)} (h : MapIs kc vc w m l) (hb : Below w.heap.size w w') : MapIs kc vc w' m l := h.of_block (hb.block m h.lt)
set_option maxRecDepth 100000 in
set_option maxHeartbeats 4000000 in
theorem prefixes_any (w : World) : Calls Tryz.prog 103 #[] w fun e w' => ∃ m, e = .returned (.map (some m)) ∧ w.heap.size ≤ m ∧ MapIs Value.string vI w' m preL ∧ Below w.heap.size w w' := by
  have hmm := @run_makeMap Tryz.prog
  have hm0 := MapIs.made Value.string vI w
  have hb0 : Below w.heap.size w (w.alloc (.map #[] 0)) := (Below.refl _ _).alloc (Nat.le_refl _) _
  have hs0 : w.heap.size ≤ (w.alloc (.map #[] 0)).heap.size := by simp
  go_enter Tryz.func103, Tryz.ntmps103
  go_wp2_with (first
    | (refine wpList_insert_is rfl _ _ _ _ rfl keyText Tryz.underlying103 hm6 rfl (⟨#[119, 105, 116, 104, 105, 110]⟩ : ByteArray) (25 : Int) rfl rfl ?_; intro w7 hm7 hg7; have hb7 := below_made hb6 (Nat.le_refl _) hs6 hg7; have hs7 := Nat.le_trans hs6 hg7.size)
    | (refine wpList_insert_is rfl _ _ _ _ rfl keyText Tryz.underlying103 hm5 rfl (⟨#[112, 114, 101, 118]⟩ : ByteArray) (24 : Int) rfl rfl ?_; intro w6 hm6 hg6; have hb6 := below_made hb5 (Nat.le_refl _) hs5 hg6; have hs6 := Nat.le_trans hs5 hg6.size)
    | (refine wpList_insert_is rfl _ _ _ _ rfl keyText Tryz.underlying103 hm4 rfl (⟨#[104, 105, 115, 116]⟩ : ByteArray) (23 : Int) rfl rfl ?_; intro w5 hm5 hg5; have hb5 := below_made hb4 (Nat.le_refl _) hs4 hg5; have hs5 := Nat.le_trans hs4 hg5.size)
    | (refine wpList_insert_is rfl _ _ _ _ rfl keyText Tryz.underlying103 hm3 rfl (⟨#[111, 110, 99, 101]⟩ : ByteArray) (22 : Int) rfl rfl ?_; intro w4 hm4 hg4; have hb4 := below_made hb3 (Nat.le_refl _) hs3 hg4; have hs4 := Nat.le_trans hs3 hg4.size)
    | (refine wpList_insert_is rfl _ _ _ _ rfl keyText Tryz.underlying103 hm2 rfl (⟨#[112, 114, 101]⟩ : ByteArray) (21 : Int) rfl rfl ?_; intro w3 hm3 hg3; have hb3 := below_made hb2 (Nat.le_refl _) hs2 hg3; have hs3 := Nat.le_trans hs2 hg3.size)
    | (refine wpList_insert_is rfl _ _ _ _ rfl keyText Tryz.underlying103 hm1 rfl (⟨#[45]⟩ : ByteArray) (5 : Int) rfl rfl ?_; intro w2 hm2 hg2; have hb2 := below_made hb1 (Nat.le_refl _) hs1 hg2; have hs2 := Nat.le_trans hs1 hg2.size)
    | (refine wpList_insert_is rfl _ _ _ _ rfl keyText Tryz.underlying103 hm0 rfl (⟨#[110, 111, 116]⟩ : ByteArray) (4 : Int) rfl rfl ?_; intro w1 hm1 hg1; have hb1 := below_made hb0 (Nat.le_refl _) hs0 hg1; have hs1 := Nat.le_trans hs0 hg1.size))
  go_ret
  exact ⟨_, rfl, Nat.le_refl _, hm7, hb7⟩
set_option maxRecDepth 100000 in
set_option maxHeartbeats 8000000 in
theorem levels_any (w : World) : Calls Tryz.prog 102 #[] w fun e w' => ∃ lb ms, e = .returned (.slice (some ⟨lb, 0, none⟩) 8 8) ∧ w.heap.size ≤ lb ∧ LvAt lb ms w' ∧ Below w.heap.size w w' := by
  have hmm := @run_makeMap Tryz.prog
  have ha0 := Below.refl w.heap.size w
  have hz0 := Nat.le_refl w.heap.size
  have hm0 := MapIs.made Value.string vI w
  have hb0 : Below w.heap.size w (w.alloc (.map #[] 0)) := (Below.refl _ _).alloc (Nat.le_refl _) _
  have hs0 : w.heap.size ≤ (w.alloc (.map #[] 0)).heap.size := by simp
  go_enter Tryz.func102, Tryz.ntmps102
  go_wp2_with (first
    | (refine wpList_insert_is rfl _ _ _ _ rfl keyText Tryz.underlying103 hm16 rfl (⟨#[109, 111, 100]⟩ : ByteArray) (18 : Int) rfl rfl ?_; intro w17 hm17 hg17; have hb17 := below_made hb16 (Nat.le_refl _) hs16 hg17; have hs17 := Nat.le_trans hs16 hg17.size; have hmS8 := MapIs.made Value.string vI w17; have hbS8 : Below w17.heap.size w17 (w17.alloc (.map #[] 0)) := (Below.refl _ _).alloc (Nat.le_refl _) _; have hsS8 : w17.heap.size ≤ (w17.alloc (.map #[] 0)).heap.size := by simp)
    | (refine wpList_insert_is rfl _ _ _ _ rfl keyText Tryz.underlying103 hm15 rfl (⟨#[100, 105, 118]⟩ : ByteArray) (17 : Int) rfl rfl ?_; intro w16 hm16 hg16; have hb16 := below_made hb15 (Nat.le_refl _) hs15 hg16; have hs16 := Nat.le_trans hs15 hg16.size)
    | (refine wpList_insert_is rfl _ _ _ _ rfl keyText Tryz.underlying103 hmS7 rfl (⟨#[42]⟩ : ByteArray) (16 : Int) rfl rfl ?_; intro w15 hm15 hg15; have hb15 := below_made hbS7 (Nat.le_refl _) hsS7 hg15; have hs15 := Nat.le_trans hsS7 hg15.size)
    | (refine wpList_insert_is rfl _ _ _ _ rfl keyText Tryz.underlying103 hm13 rfl (⟨#[45]⟩ : ByteArray) (15 : Int) rfl rfl ?_; intro w14 hm14 hg14; have hb14 := below_made hb13 (Nat.le_refl _) hs13 hg14; have hs14 := Nat.le_trans hs13 hg14.size; have hmS7 := MapIs.made Value.string vI w14; have hbS7 : Below w14.heap.size w14 (w14.alloc (.map #[] 0)) := (Below.refl _ _).alloc (Nat.le_refl _) _; have hsS7 : w14.heap.size ≤ (w14.alloc (.map #[] 0)).heap.size := by simp)
    | (refine wpList_insert_is rfl _ _ _ _ rfl keyText Tryz.underlying103 hmS6 rfl (⟨#[43]⟩ : ByteArray) (14 : Int) rfl rfl ?_; intro w13 hm13 hg13; have hb13 := below_made hbS6 (Nat.le_refl _) hsS6 hg13; have hs13 := Nat.le_trans hsS6 hg13.size)
    | (refine wpList_insert_is rfl _ _ _ _ rfl keyText Tryz.underlying103 hm11 rfl (⟨#[62, 61]⟩ : ByteArray) ((-13) : Int) rfl rfl ?_; intro w12 hm12 hg12; have hb12 := below_made hb11 (Nat.le_refl _) hs11 hg12; have hs12 := Nat.le_trans hs11 hg12.size; have hmS6 := MapIs.made Value.string vI w12; have hbS6 : Below w12.heap.size w12 (w12.alloc (.map #[] 0)) := (Below.refl _ _).alloc (Nat.le_refl _) _; have hsS6 : w12.heap.size ≤ (w12.alloc (.map #[] 0)).heap.size := by simp)
    | (refine wpList_insert_is rfl _ _ _ _ rfl keyText Tryz.underlying103 hm10 rfl (⟨#[62]⟩ : ByteArray) ((-12) : Int) rfl rfl ?_; intro w11 hm11 hg11; have hb11 := below_made hb10 (Nat.le_refl _) hs10 hg11; have hs11 := Nat.le_trans hs10 hg11.size)
    | (refine wpList_insert_is rfl _ _ _ _ rfl keyText Tryz.underlying103 hm9 rfl (⟨#[60, 61]⟩ : ByteArray) (13 : Int) rfl rfl ?_; intro w10 hm10 hg10; have hb10 := below_made hb9 (Nat.le_refl _) hs9 hg10; have hs10 := Nat.le_trans hs9 hg10.size)
    | (refine wpList_insert_is rfl _ _ _ _ rfl keyText Tryz.underlying103 hm8 rfl (⟨#[60]⟩ : ByteArray) (12 : Int) rfl rfl ?_; intro w9 hm9 hg9; have hb9 := below_made hb8 (Nat.le_refl _) hs8 hg9; have hs9 := Nat.le_trans hs8 hg9.size)
    | (refine wpList_insert_is rfl _ _ _ _ rfl keyText Tryz.underlying103 hm7 rfl (⟨#[60, 62]⟩ : ByteArray) (11 : Int) rfl rfl ?_; intro w8 hm8 hg8; have hb8 := below_made hb7 (Nat.le_refl _) hs7 hg8; have hs8 := Nat.le_trans hs7 hg8.size)
    | (refine wpList_insert_is rfl _ _ _ _ rfl keyText Tryz.underlying103 hmS5 rfl (⟨#[61]⟩ : ByteArray) (10 : Int) rfl rfl ?_; intro w7 hm7 hg7; have hb7 := below_made hbS5 (Nat.le_refl _) hsS5 hg7; have hs7 := Nat.le_trans hsS5 hg7.size)
    | (refine wpList_insert_is rfl _ _ _ _ rfl keyText Tryz.underlying103 hmS4 rfl (⟨#[97, 110, 100]⟩ : ByteArray) (6 : Int) rfl rfl ?_; intro w6 hm6 hg6; have hb6 := below_made hbS4 (Nat.le_refl _) hsS4 hg6; have hs6 := Nat.le_trans hsS4 hg6.size; have hmS5 := MapIs.made Value.string vI w6; have hbS5 : Below w6.heap.size w6 (w6.alloc (.map #[] 0)) := (Below.refl _ _).alloc (Nat.le_refl _) _; have hsS5 : w6.heap.size ≤ (w6.alloc (.map #[] 0)).heap.size := by simp)
    | (refine wpList_insert_is rfl _ _ _ _ rfl keyText Tryz.underlying103 hm4 rfl (⟨#[120, 111, 114]⟩ : ByteArray) (8 : Int) rfl rfl ?_; intro w5 hm5 hg5; have hb5 := below_made hb4 (Nat.le_refl _) hs4 hg5; have hs5 := Nat.le_trans hs4 hg5.size; have hmS4 := MapIs.made Value.string vI w5; have hbS4 : Below w5.heap.size w5 (w5.alloc (.map #[] 0)) := (Below.refl _ _).alloc (Nat.le_refl _) _; have hsS4 : w5.heap.size ≤ (w5.alloc (.map #[] 0)).heap.size := by simp)
    | (refine wpList_insert_is rfl _ _ _ _ rfl keyText Tryz.underlying103 hmS3 rfl (⟨#[111, 114]⟩ : ByteArray) (7 : Int) rfl rfl ?_; intro w4 hm4 hg4; have hb4 := below_made hbS3 (Nat.le_refl _) hsS3 hg4; have hs4 := Nat.le_trans hsS3 hg4.size)
    | (refine wpList_insert_is rfl _ _ _ _ rfl keyText Tryz.underlying103 hmS2 rfl (⟨#[115, 105, 110, 99, 101]⟩ : ByteArray) (20 : Int) rfl rfl ?_; intro w3 hm3 hg3; have hb3 := below_made hbS2 (Nat.le_refl _) hsS2 hg3; have hs3 := Nat.le_trans hsS2 hg3.size; have hmS3 := MapIs.made Value.string vI w3; have hbS3 : Below w3.heap.size w3 (w3.alloc (.map #[] 0)) := (Below.refl _ _).alloc (Nat.le_refl _) _; have hsS3 : w3.heap.size ≤ (w3.alloc (.map #[] 0)).heap.size := by simp)
    | (refine wpList_insert_is rfl _ _ _ _ rfl keyText Tryz.underlying103 hmS1 rfl (⟨#[61, 62]⟩ : ByteArray) (9 : Int) rfl rfl ?_; intro w2 hm2 hg2; have hb2 := below_made hbS1 (Nat.le_refl _) hsS1 hg2; have hs2 := Nat.le_trans hsS1 hg2.size; have hmS2 := MapIs.made Value.string vI w2; have hbS2 : Below w2.heap.size w2 (w2.alloc (.map #[] 0)) := (Below.refl _ _).alloc (Nat.le_refl _) _; have hsS2 : w2.heap.size ≤ (w2.alloc (.map #[] 0)).heap.size := by simp)
    | (refine wpList_insert_is rfl _ _ _ _ rfl keyText Tryz.underlying103 hm0 rfl (⟨#[45, 62]⟩ : ByteArray) (19 : Int) rfl rfl ?_; intro w1 hm1 hg1; have hb1 := below_made hb0 (Nat.le_refl _) hs0 hg1; have hs1 := Nat.le_trans hs0 hg1.size; have hmS1 := MapIs.made Value.string vI w1; have hbS1 : Below w1.heap.size w1 (w1.alloc (.map #[] 0)) := (Below.refl _ _).alloc (Nat.le_refl _) _; have hsS1 : w1.heap.size ≤ (w1.alloc (.map #[] 0)).heap.size := by simp))
  have T7 := Below.refl w17.heap.size w17
  have T6 : Below w14.heap.size w14 w17 := below_next hb17 T7
  have T5 : Below w12.heap.size w12 w17 := below_next hb14 T6
  have T4 : Below w6.heap.size w6 w17 := below_next hb12 T5
  have T3 : Below w5.heap.size w5 w17 := below_next hb6 T4
  have T2 : Below w3.heap.size w3 w17 := below_next hb5 T3
  have T1 : Below w2.heap.size w2 w17 := below_next hb3 T2
  have T0 : Below w1.heap.size w1 w17 := below_next hb2 T1
  have TW : Below w.heap.size w w17 := below_next hb1 T0
  have M0 := map_past hm1 T0
  have M1 := map_past hm2 T1
  have M2 := map_past hm3 T2
  have M3 := map_past hm5 T3
  have M4 := map_past hm6 T4
  have M5 := map_past hm12 T5
  have M6 := map_past hm14 T6
  have M7 := map_past hm17 T7
  go_ret
  refine ⟨_, fun n => match n with | 0 => w.heap.size | 1 => w1.heap.size | 2 => w2.heap.size | 3 => w3.heap.size | 4 => w5.heap.size | 5 => w6.heap.size | 6 => w12.heap.size | _ => w14.heap.size, rfl, ?_, ?_, TW.alloc TW.size _⟩
  · exact TW.size
  · intro n hn
    have hb := Below.alloc (Below.refl w17.heap.size w17) (Nat.le_refl _) (.cells #[.map (some w.heap.size), .bool true, .bool false, .map (some w1.heap.size), .bool true, .bool false, .map (some w2.heap.size), .bool false, .bool false, .map (some w3.heap.size), .bool false, .bool false, .map (some w5.heap.size), .bool false, .bool false, .map (some w6.heap.size), .bool false, .bool true, .map (some w12.heap.size), .bool false, .bool false, .map (some w14.heap.size), .bool false, .bool false] 154)
    have hc := heap_alloc_new w17 (.cells #[.map (some w.heap.size), .bool true, .bool false, .map (some w1.heap.size), .bool true, .bool false, .map (some w2.heap.size), .bool false, .bool false, .map (some w3.heap.size), .bool false, .bool false, .map (some w5.heap.size), .bool false, .bool false, .map (some w6.heap.size), .bool false, .bool true, .map (some w12.heap.size), .bool false, .bool false, .map (some w14.heap.size), .bool false, .bool false] 154)
    match n, hn with
    | 0, _ => exact ⟨map_past M0 hb, by unfold World.cell?; rw [hc]; rfl, by unfold World.cell?; rw [hc]; rfl, by unfold World.cell?; rw [hc]; rfl⟩
    | 1, _ => exact ⟨map_past M1 hb, by unfold World.cell?; rw [hc]; rfl, by unfold World.cell?; rw [hc]; rfl, by unfold World.cell?; rw [hc]; rfl⟩
    | 2, _ => exact ⟨map_past M2 hb, by unfold World.cell?; rw [hc]; rfl, by unfold World.cell?; rw [hc]; rfl, by unfold World.cell?; rw [hc]; rfl⟩
    | 3, _ => exact ⟨map_past M3 hb, by unfold World.cell?; rw [hc]; rfl, by unfold World.cell?; rw [hc]; rfl, by unfold World.cell?; rw [hc]; rfl⟩
    | 4, _ => exact ⟨map_past M4 hb, by unfold World.cell?; rw [hc]; rfl, by unfold World.cell?; rw [hc]; rfl, by unfold World.cell?; rw [hc]; rfl⟩
    | 5, _ => exact ⟨map_past M5 hb, by unfold World.cell?; rw [hc]; rfl, by unfold World.cell?; rw [hc]; rfl, by unfold World.cell?; rw [hc]; rfl⟩
    | 6, _ => exact ⟨map_past M6 hb, by unfold World.cell?; rw [hc]; rfl, by unfold World.cell?; rw [hc]; rfl, by unfold World.cell?; rw [hc]; rfl⟩
    | 7, _ => exact ⟨map_past M7 hb, by unfold World.cell?; rw [hc]; rfl, by unfold World.cell?; rw [hc]; rfl, by unfold World.cell?; rw [hc]; rfl⟩
    | n + 8, hn => exact absurd hn (by omega)
end Go.Proofs.YtahalimekacliaaGreatDoor
