/- The program's reader of expressions: what stands here; what is passed; expressions put together: the walk. -/
import Derived.Test.YtmklieoikbgmpaaDoorJ15
namespace Go.Proofs.YtmklieoikbgmpaaDoor
open Go.RowKit Go.Shelf Tx Px
def hereS (c : Int) (L : List Tok) (I : Nat) : ByteArray := if c = 0 then (hereT L I).getD noS else noS
theorem hereS_yes {L : List Tok} {I : Nat} {s : ByteArray} (h : isT L I s = true) : hereS 0 L I = s := by
  unfold isT at h
  simp only [decide_eq_true_eq] at h
  unfold hereS; rw [h]; rfl
theorem hereS_no {c : Int} {L : List Tok} {I : Nat} {s : ByteArray} (hs : s ≠ noS) (h : isT L I s = false ∨ c ≠ 0) : hereS c L I ≠ s := by
  unfold hereS
  rcases h with h | h
  · unfold isT at h
    simp only [decide_eq_false_iff_not] at h
    split
    · cases hh : hereT L I with
      | none => exact fun e => hs e.symm
      | some t => rw [hh] at h; simpa using h
    · exact fun e => hs e.symm
  · rw [if_neg h]; exact fun e => hs e.symm
theorem ret_str {a b : ByteArray} (h : a = b) : Ending.returned (.string a) = .returned (.string b) := by rw [h]
section
variable {L : List Tok} {a : Option Addr} {cc rb : Nat} {w0 : World} {lv pm : Value}
set_option maxRecDepth 100000 in
set_option maxHeartbeats 4000000 in
theorem ehere_3 (EV : Hid (EnvOk w0 rb a cc L)) (I : Nat) (hI : I ≤ 200000) (o p : Int) (w : World) (hB : Al rb w0 w) (hR : Re w rb (.slice a L.length cc) I o 0 p lv pm) (x : Tok) (hx : L[I]? = some x) (hk : (x.k : Int) = 3) :
    Calls Tryd.prog 45 #[.pointer (some ⟨rb, 0, none⟩)] w fun e w' => e = .returned (.string (hereS 0 L I)) ∧ ∃ q, w' = w.drewN q := by
  obtain ⟨c0, c1, c2, c3, c4, c5, c6⟩ := hR.cells
  have hok : ∀ q, Calls Tryd.prog 16 #[.pointer (some ⟨rb, 0, none⟩)] (w.drewN q) fun e w' => e = .returned (.bool true) ∧ w' = w.drewN q := fun q => eok_any I o 0 p _ _ (hR.drewN q)
  have hi1 : (0 : Int) ≤ (I : Int) := by omega
  obtain ⟨b, q, rfl, d0, d1, d2⟩ := EV.out.tok w hB I x hx
  have hlt : I < L.length := (List.getElem?_eq_some_iff.1 hx).1
  have h2 : (I : Int) < (L.length : Int) := by omega
  have HF : Hid (hereS 0 L I = x.t) := by
    show _ = _
    have h34 : x.k = 3 ∨ x.k = 4 := by omega
    unfold hereS hereT; rw [hx]; simp [h34]
  rw [hk] at d0
  have hd1 : decide (L.length ≤ I) = false := by simp; omega
  have HCAP := Lib.hid EV.out.cap
  clear hB hx EV hR hk hI hlt
  go_enter Tryd.func45, Tryd.ntmps45
  go_wp2_with fail
  go_quiet ((go_at_call 16; exact Calls.quiet_of_same (hok _)))
  go_wp2_with fail
  go_quiet (fail)
  go_wp2_with fail
  go_ret
  exact ⟨ret_str HF.out.symm, _, by first | rw [World.drewN_drewN] | rfl⟩
set_option maxRecDepth 100000 in
set_option maxHeartbeats 4000000 in
theorem ehere_4 (EV : Hid (EnvOk w0 rb a cc L)) (I : Nat) (hI : I ≤ 200000) (o p : Int) (w : World) (hB : Al rb w0 w) (hR : Re w rb (.slice a L.length cc) I o 0 p lv pm) (x : Tok) (hx : L[I]? = some x) (hk : (x.k : Int) = 4) :
    Calls Tryd.prog 45 #[.pointer (some ⟨rb, 0, none⟩)] w fun e w' => e = .returned (.string (hereS 0 L I)) ∧ ∃ q, w' = w.drewN q := by
  obtain ⟨c0, c1, c2, c3, c4, c5, c6⟩ := hR.cells
  have hok : ∀ q, Calls Tryd.prog 16 #[.pointer (some ⟨rb, 0, none⟩)] (w.drewN q) fun e w' => e = .returned (.bool true) ∧ w' = w.drewN q := fun q => eok_any I o 0 p _ _ (hR.drewN q)
  have hi1 : (0 : Int) ≤ (I : Int) := by omega
  obtain ⟨b, q, rfl, d0, d1, d2⟩ := EV.out.tok w hB I x hx
  have hlt : I < L.length := (List.getElem?_eq_some_iff.1 hx).1
  have h2 : (I : Int) < (L.length : Int) := by omega
  have HF : Hid (hereS 0 L I = x.t) := by
    show _ = _
    have h34 : x.k = 3 ∨ x.k = 4 := by omega
    unfold hereS hereT; rw [hx]; simp [h34]
  rw [hk] at d0
  have hd1 : decide (L.length ≤ I) = false := by simp; omega
  have HCAP := Lib.hid EV.out.cap
  clear hB hx EV hR hk hI hlt
  go_enter Tryd.func45, Tryd.ntmps45
  go_wp2_with fail
  go_quiet ((go_at_call 16; exact Calls.quiet_of_same (hok _)))
  go_wp2_with fail
  go_quiet (fail)
  go_wp2_with fail
  go_ret
  exact ⟨ret_str HF.out.symm, _, by first | rw [World.drewN_drewN] | rfl⟩
set_option maxRecDepth 100000 in
set_option maxHeartbeats 4000000 in
theorem ehere_other (EV : Hid (EnvOk w0 rb a cc L)) (I : Nat) (hI : I ≤ 200000) (o p : Int) (w : World) (hB : Al rb w0 w) (hR : Re w rb (.slice a L.length cc) I o 0 p lv pm) (x : Tok) (hx : L[I]? = some x) (hk : x.k ≠ 3 ∧ x.k ≠ 4) :
    Calls Tryd.prog 45 #[.pointer (some ⟨rb, 0, none⟩)] w fun e w' => e = .returned (.string (hereS 0 L I)) ∧ ∃ q, w' = w.drewN q := by
  obtain ⟨c0, c1, c2, c3, c4, c5, c6⟩ := hR.cells
  have hok : ∀ q, Calls Tryd.prog 16 #[.pointer (some ⟨rb, 0, none⟩)] (w.drewN q) fun e w' => e = .returned (.bool true) ∧ w' = w.drewN q := fun q => eok_any I o 0 p _ _ (hR.drewN q)
  have hi1 : (0 : Int) ≤ (I : Int) := by omega
  obtain ⟨b, q, rfl, d0, d1, d2⟩ := EV.out.tok w hB I x hx
  have hlt : I < L.length := (List.getElem?_eq_some_iff.1 hx).1
  have h2 : (I : Int) < (L.length : Int) := by omega
  have HF : Hid (hereS 0 L I = noS) := by
    show _ = _
    unfold hereS hereT; rw [hx]; simp [hk]
  obtain ⟨k, hkk⟩ : ∃ k : Int, k = x.k := ⟨_, rfl⟩
  rw [← hkk] at d0
  have k3 : (k == 4) = false := by rw [beq_eq_false_iff_ne]; omega
  have k4 : (k == 3) = false := by rw [beq_eq_false_iff_ne]; omega
  have k5 : (k != 4) = true := by rw [bne_iff_ne]; omega
  have k6 : (k != 3) = true := by rw [bne_iff_ne]; omega
  have hd1 : decide (L.length ≤ I) = false := by simp; omega
  clear hB hx EV hR hk hI hlt hkk
  go_enter Tryd.func45, Tryd.ntmps45
  go_wp2_with fail
  go_quiet ((go_at_call 16; exact Calls.quiet_of_same (hok _)))
  go_wp2_with fail
  go_ret
  exact ⟨ret_str HF.out.symm, _, rfl⟩
set_option maxRecDepth 100000 in
set_option maxHeartbeats 4000000 in
theorem ehere_end (_EV : Hid (EnvOk w0 rb a cc L)) (I : Nat) (_hI : I ≤ 200000) (o p : Int) (w : World) (_hB : Al rb w0 w) (hR : Re w rb (.slice a L.length cc) I o 0 p lv pm) (h : L.length ≤ I) :
    Calls Tryd.prog 45 #[.pointer (some ⟨rb, 0, none⟩)] w fun e w' => e = .returned (.string (hereS 0 L I)) ∧ ∃ q, w' = w.drewN q := by
  obtain ⟨c0, c1, c2, c3, c4, c5, c6⟩ := hR.cells
  have hok : ∀ q, Calls Tryd.prog 16 #[.pointer (some ⟨rb, 0, none⟩)] (w.drewN q) fun e w' => e = .returned (.bool true) ∧ w' = w.drewN q := fun q => eok_any I o 0 p _ _ (hR.drewN q)
  have HF : Hid (hereS 0 L I = noS) := by
    show _ = _
    unfold hereS hereT; rw [List.getElem?_eq_none (by omega)]; rfl
  have hd1 : decide (L.length ≤ I) = true := by simp; omega
  clear _hB _EV hR h _hI
  go_enter Tryd.func45, Tryd.ntmps45
  go_wp2_with fail
  go_quiet ((go_at_call 16; exact Calls.quiet_of_same (hok _)))
  go_wp2_with fail
  go_ret
  exact ⟨ret_str HF.out.symm, _, rfl⟩
set_option maxRecDepth 100000 in
set_option maxHeartbeats 4000000 in
theorem ehere_bad (_EV : Hid (EnvOk w0 rb a cc L)) (I : Nat) (_hI : I ≤ 200000) (o c p : Int) (w : World) (_hB : Al rb w0 w) (hR : Re w rb (.slice a L.length cc) I o c p lv pm) (hc : c ≠ 0) :
    Calls Tryd.prog 45 #[.pointer (some ⟨rb, 0, none⟩)] w fun e w' => e = .returned (.string (hereS c L I)) ∧ ∃ q, w' = w.drewN q := by
  obtain ⟨c0, c1, c2, c3, c4, c5, c6⟩ := hR.cells
  have hok : ∀ q, Calls Tryd.prog 16 #[.pointer (some ⟨rb, 0, none⟩)] (w.drewN q) fun e w' => e = .returned (.bool false) ∧ w' = w.drewN q := fun q => by have h := eok_any I o c p (.slice a L.length cc) _ (hR.drewN q); rw [decide_eq_false hc] at h; exact h
  have HF : Hid (hereS c L I = noS) := by
    show _ = _
    unfold hereS; rw [if_neg hc]
  clear _hB _EV hR hc _hI
  go_enter Tryd.func45, Tryd.ntmps45
  go_wp2_with fail
  go_quiet ((go_at_call 16; exact Calls.quiet_of_same (hok _)))
  go_wp2_with fail
  go_ret
  exact ⟨ret_str HF.out.symm, _, rfl⟩
theorem ehere_any (EV : Hid (EnvOk w0 rb a cc L)) (I : Nat) (hI : I ≤ 200000) (o c p : Int) (w : World) (hB : Al rb w0 w) (hR : Re w rb (.slice a L.length cc) I o c p lv pm) :
    Calls Tryd.prog 45 #[.pointer (some ⟨rb, 0, none⟩)] w fun e w' => e = .returned (.string (hereS c L I)) ∧ ∃ q, w' = w.drewN q := by
  by_cases hc : c = 0
  · subst hc
    by_cases h : I < L.length
    · obtain ⟨x, hx⟩ : ∃ x, L[I]? = some x := ⟨_, List.getElem?_eq_getElem h⟩
      by_cases h3 : x.k = 3
      · exact ehere_3 EV I hI o p w hB hR x hx (by omega)
      by_cases h4 : x.k = 4
      · exact ehere_4 EV I hI o p w hB hR x hx (by omega)
      · exact ehere_other EV I hI o p w hB hR x hx ⟨h3, h4⟩
    · exact ehere_end EV I hI o p w hB hR (by omega)
  · exact ehere_bad EV I hI o c p w hB hR hc
set_option maxRecDepth 100000 in
set_option maxHeartbeats 1000000 in
theorem etake_yes (EV : Hid (EnvOk w0 rb a cc L)) (I : Nat) (hI : I ≤ 200000) (o p : Int) (s : ByteArray) (hs : isT L I s = true) (w : World) (hB : Al rb w0 w) (hR : Re w rb (.slice a L.length cc) I o 0 p lv pm) :
    Calls Tryd.prog 64 #[.pointer (some ⟨rb, 0, none⟩), .string s] w fun e w' => e = .returned (.bool true) ∧ Re w' rb (.slice a L.length cc) ((I : Int) + 1) o 0 p lv pm ∧ Al rb w w' := by
  have hh := ehere_any EV I hI o 0 p w hB hR
  rw [hereS_yes hs] at hh
  have HR := Lib.hid hR
  have heq : (s.toList == s.toList) = true := by simp
  clear hB hR EV
  go_enter Tryd.func64, Tryd.ntmps64
  go_wp2_with fail
  refine hh.mono ?_
  rintro r w2 ⟨rfl, q, hq⟩
  have hR2 : Re w2 rb (.slice a L.length cc) I o 0 p lv pm := by rw [hq]; exact HR.out.drewN q
  have hA2 : Al rb w w2 := by rw [hq]; exact (Al.refl _ _).drewN q
  obtain ⟨c0, c1, c2, c3, c4, c5, c6⟩ := hR2.cells
  obtain ⟨f0, f1, f2, f3, f4⟩ := hR2.free
  have HR2 := Lib.hid hR2
  clear hh hq hR2
  go_wp2_with fail
  go_ret
  have h := HR2.out.setI ((I : Int) + 1)
  exact ⟨rfl, h, hA2.set _ _⟩
set_option maxRecDepth 100000 in
set_option maxHeartbeats 1000000 in
theorem etake_no (EV : Hid (EnvOk w0 rb a cc L)) (I : Nat) (hI : I ≤ 200000) (o c p : Int) (s : ByteArray) (hs : s ≠ noS) (hn : isT L I s = false ∨ c ≠ 0) (w : World) (hB : Al rb w0 w) (hR : Re w rb (.slice a L.length cc) I o c p lv pm) :
    Calls Tryd.prog 64 #[.pointer (some ⟨rb, 0, none⟩), .string s] w fun e w' => e = .returned (.bool false) ∧ ∃ q, w' = w.drewN q := by
  have hh := ehere_any EV I hI o c p w hB hR
  have heq : ((hereS c L I).toList == s.toList) = false := by rw [bytes_eq, decide_eq_false (hereS_no hs hn)]
  clear hB hR EV hs hn
  go_enter Tryd.func64, Tryd.ntmps64
  go_wp2_with fail
  refine hh.mono ?_
  rintro r w2 ⟨rfl, q, rfl⟩
  clear hh
  go_wp2_with fail
  go_ret
  exact ⟨rfl, q, rfl⟩
set_option maxRecDepth 100000 in
set_option maxHeartbeats 1000000 in
theorem eneed_yes (EV : Hid (EnvOk w0 rb a cc L)) (I : Nat) (hI : I ≤ 200000) (o p : Int) (s : ByteArray) (hs : isT L I s = true) (w : World) (hB : Al rb w0 w) (hR : Re w rb (.slice a L.length cc) I o 0 p lv pm) :
    Calls Tryd.prog 67 #[.pointer (some ⟨rb, 0, none⟩), .string s] w fun e w' => e = .returned (.tuple #[]) ∧ Re w' rb (.slice a L.length cc) ((I : Int) + 1) o 0 p lv pm ∧ Al rb w w' := by
  have hh := etake_yes EV I hI o p s hs w hB hR
  clear hB hR EV hs
  go_enter Tryd.func67, Tryd.ntmps67
  go_wp2_with fail
  refine hh.mono ?_
  rintro r w1 ⟨rfl, hR, hA⟩
  clear hh
  go_wp2_with fail
  first | go_end0 | (refine bodyPost_ret (results_none rfl _ _ _) rfl ?_)
  exact ⟨rfl, hR, hA⟩
set_option maxRecDepth 100000 in
set_option maxHeartbeats 1000000 in
theorem eneed_no (EV : Hid (EnvOk w0 rb a cc L)) (I : Nat) (hI : I ≤ 200000) (o p : Int) (s : ByteArray) (hs : s ≠ noS) (hn : isT L I s = false) (w : World) (hB : Al rb w0 w) (hR : Re w rb (.slice a L.length cc) I o 0 p lv pm) :
    Calls Tryd.prog 67 #[.pointer (some ⟨rb, 0, none⟩), .string s] w fun e w' => e = .returned (.tuple #[]) ∧ Re w' rb (.slice a L.length cc) I o 5 (atP L I) lv pm ∧ Al rb w w' := by
  have hh := etake_no EV I hI o 0 p s hs (Or.inl hn) w hB hR
  have hf := fun q => efail_yes EV I hI o p 5 (w.drewN q) (hB.drewN q) (hR.drewN q)
  clear hB hR EV hs hn
  go_enter Tryd.func67, Tryd.ntmps67
  go_wp2_with fail
  refine hh.mono ?_
  rintro r w2 ⟨rfl, q, rfl⟩
  go_wp2_with fail
  refine (hf q).mono ?_
  rintro r w3 ⟨rfl, hR, hA⟩
  clear hh hf
  go_wp2_with fail
  first | go_end0 | (refine bodyPost_ret (results_none rfl _ _ _) rfl ?_)
  exact ⟨rfl, hR, ((Al.refl rb w).drewN q).next hA⟩
set_option maxRecDepth 100000 in
set_option maxHeartbeats 1000000 in
theorem eneed_fault (EV : Hid (EnvOk w0 rb a cc L)) (I : Nat) (hI : I ≤ 200000) (o c p : Int) (s : ByteArray) (hs : s ≠ noS) (hc : c ≠ 0) (w : World) (hB : Al rb w0 w) (hR : Re w rb (.slice a L.length cc) I o c p lv pm) :
    Calls Tryd.prog 67 #[.pointer (some ⟨rb, 0, none⟩), .string s] w fun e w' => e = .returned (.tuple #[]) ∧ ∃ q, w' = w.drewN q := by
  have hh := etake_no EV I hI o c p s hs (Or.inr hc) w hB hR
  have hf := fun q => efail_no I o c p 5 hc _ (w.drewN q) (hR.drewN q)
  clear hB hR EV hs hc
  go_enter Tryd.func67, Tryd.ntmps67
  go_wp2_with fail
  refine hh.mono ?_
  rintro r w2 ⟨rfl, q, rfl⟩
  go_wp2_with fail
  refine (hf q).mono ?_
  rintro r w3 ⟨rfl, rfl⟩
  clear hh hf
  go_wp2_with fail
  first | go_end0 | (refine bodyPost_ret (results_none rfl _ _ _) rfl ?_)
  exact ⟨rfl, q, rfl⟩
end
theorem ejoin_ok {rb : Nat} {lv pm : Value} (I o p : Int) (tv : Value) (op n : Int) (s : ByteArray) (Fs : List Fo) (v : Value) (w : World) (hR : Re w rb tv I o 0 p lv pm) (hv : Sg 1 IsF w v Fs) (h1 : ∀ F ∈ Fs, F.count = 1) (hz : (cat Fs).size + Fs.length ≤ 500000) (h28 : op ≠ 28) (har : op ≠ 27 → (kids (leaf op n s)).length = Fs.length) :
    Calls Tryd.prog 46 #[.pointer (some ⟨rb, 0, none⟩), .int .i64 op, .int .i64 n, .string s, v] w fun r w' => ∃ v', r = .returned v' ∧ OwnE w.heap.size w' v' ((joinF op n s Fs).flat 0) ∧ Below w.heap.size w w' := by
  have hok := eok_any I o 0 p _ w hR
  have hj := Join_any op n s Fs v w hv h1 hz h28 har
  clear hR hv h1 hz h28 har
  go_enter Tryd.func46, Tryd.ntmps46
  go_wp2_with fail
  refine hok.mono ?_
  rintro r w1 ⟨rfl, rfl⟩
  go_wp2_with fail
  refine hj.mono ?_
  rintro r w1 ⟨v', rfl, ho, hb⟩
  clear hok hj
  go_wp2_with fail
  go_ret
  exact ⟨v', rfl, ho, hb⟩
theorem ejoin_no {rb : Nat} {lv pm : Value} (I o c p : Int) (hc : c ≠ 0) (tv : Value) (op n : Int) (s : ByteArray) (v : Value) (w : World) (hR : Re w rb tv I o c p lv pm) :
    Calls Tryd.prog 46 #[.pointer (some ⟨rb, 0, none⟩), .int .i64 op, .int .i64 n, .string s, v] w fun r w' => r = .returned (.slice none 0 0) ∧ w' = w := by
  have hok := eok_any I o c p _ w hR
  rw [decide_eq_false hc] at hok
  clear hR hc
  go_enter Tryd.func46, Tryd.ntmps46
  go_wp2_with fail
  refine hok.mono ?_
  rintro r w1 ⟨rfl, rfl⟩
  clear hok
  go_wp2_with fail
  go_ret
  exact ⟨rfl, rfl⟩
end Go.Proofs.YtmklieoikbgmpaaDoor
