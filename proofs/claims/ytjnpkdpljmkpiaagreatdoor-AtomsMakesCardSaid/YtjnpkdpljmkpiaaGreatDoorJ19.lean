/- The reference's reader of expressions: what is passed, what must be passed, expressions put together: the walk. The reference's reader of expressions: level 3 (since): the walk. The reference's reader of expressions: where there was a fault: the walk. The reference's reader of expressions: level 5 (and): the walk. The reference's reader of expressions: levels 1 and 2 (Arrow, imp): the walk. The reference's reader of expressions: level 6 (cmp): the walk. -/
import Derived.Test.YtjnpkdpljmkpiaaGreatDoorJ18
namespace Go.Proofs.YtjnpkdpljmkpiaaGreatDoor
open Go.RowKit Go.Shelf Tx Px
theorem isB_yes {L : List Tok} {I : Nat} {s : ByteArray} (h : isT L I s = true) : isB 0 L I s = true := by unfold isB; rw [h]; rfl
theorem isB_no {c : Int} {L : List Tok} {I : Nat} {s : ByteArray} (h : isT L I s = false ∨ c ≠ 0) : isB c L I s = false := by
  unfold isB
  rcases h with h | h
  · rw [h, Bool.and_false]
  · rw [decide_eq_false h]; rfl
section
variable {L : List Tok} {a : Option Addr} {cc rb : Nat} {w0 : World}
set_option maxHeartbeats 1000000 in
theorem r4is_yes (EV : Hid (EnvOk w0 rb a cc L)) (I : Nat) (hI : I ≤ 200000) (o p : Int) (s : ByteArray) (hs : isT L I s = true) (w : World) (hB : Al rb w0 w) (hR : Rd rb (.slice a L.length cc) w I o 0 p) :
    Calls Tryz.prog 134 #[.pointer (some ⟨rb, 0, none⟩), .string s] w fun e w' => e = .returned (.bool true) ∧ Below w.heap.size w w' := by
  have := r4is_any EV I hI o 0 p s w hB hR
  rwa [isB_yes hs] at this
theorem r4is_no (EV : Hid (EnvOk w0 rb a cc L)) (I : Nat) (hI : I ≤ 200000) (o c p : Int) (s : ByteArray) (hs : isT L I s = false ∨ c ≠ 0) (w : World) (hB : Al rb w0 w) (hR : Rd rb (.slice a L.length cc) w I o c p) :
    Calls Tryz.prog 134 #[.pointer (some ⟨rb, 0, none⟩), .string s] w fun e w' => e = .returned (.bool false) ∧ Below w.heap.size w w' := by
  have := r4is_any EV I hI o c p s w hB hR
  rwa [isB_no hs] at this
set_option maxHeartbeats 1000000 in
theorem r4take_yes (EV : Hid (EnvOk w0 rb a cc L)) (I : Nat) (hI : I ≤ 200000) (o p : Int) (s : ByteArray) (hs : isT L I s = true) (w : World) (hB : Al rb w0 w) (hR : Rd rb (.slice a L.length cc) w I o 0 p) :
    Calls Tryz.prog 121 #[.pointer (some ⟨rb, 0, none⟩), .string s] w fun e w' => e = .returned (.bool true) ∧ Rd rb (.slice a L.length cc) w' ((I : Int) + 1) o 0 p ∧ Al rb w w' := by
  have hh := r4is_yes EV I hI o p s hs w hB hR
  have HR := Lib.hid hR
  clear hB hR EV hs
  go_enter Tryz.func121, Tryz.ntmps121
  go_wp2_with fail
  refine hh.mono ?_
  rintro r w2 ⟨rfl, hb⟩
  have hR2 := HR.out.below hb
  have HA : Hid (Al rb w w2) := Al.of hb
  obtain ⟨c0, c1, c2, c3, c4⟩ := hR2.cells
  obtain ⟨f0, f1, f2, f3, f4⟩ := hR2.free
  have HR2 := Lib.hid hR2
  clear hh hb hR2 HR
  go_wp2_with fail
  go_ret
  exact ⟨rfl, HR2.out.setI _, HA.out.set _ _⟩
set_option maxHeartbeats 1000000 in
theorem r4take_no (EV : Hid (EnvOk w0 rb a cc L)) (I : Nat) (hI : I ≤ 200000) (o c p : Int) (s : ByteArray) (hn : isT L I s = false ∨ c ≠ 0) (w : World) (hB : Al rb w0 w) (hR : Rd rb (.slice a L.length cc) w I o c p) :
    Calls Tryz.prog 121 #[.pointer (some ⟨rb, 0, none⟩), .string s] w fun e w' => e = .returned (.bool false) ∧ Below w.heap.size w w' := by
  have hh := r4is_no EV I hI o c p s hn w hB hR
  clear hB hR EV hn
  go_enter Tryz.func121, Tryz.ntmps121
  go_wp2_with fail
  refine hh.mono ?_
  rintro r w2 ⟨rfl, hb⟩
  clear hh
  go_wp2_with fail
  go_ret
  exact ⟨rfl, hb⟩
set_option maxHeartbeats 1000000 in
theorem r4need_yes (EV : Hid (EnvOk w0 rb a cc L)) (I : Nat) (hI : I ≤ 200000) (o p : Int) (s : ByteArray) (hs : isT L I s = true) (w : World) (hB : Al rb w0 w) (hR : Rd rb (.slice a L.length cc) w I o 0 p) :
    Calls Tryz.prog 163 #[.pointer (some ⟨rb, 0, none⟩), .string s] w fun e w' => e = .returned (.tuple #[]) ∧ Rd rb (.slice a L.length cc) w' ((I : Int) + 1) o 0 p ∧ Al rb w w' := by
  have hh := r4take_yes EV I hI o p s hs w hB hR
  clear hB hR EV hs
  go_enter Tryz.func163, Tryz.ntmps163
  go_wp2_with fail
  refine hh.mono ?_
  rintro r w1 ⟨rfl, hR, hA⟩
  clear hh
  go_wp2_with fail
  first | go_end0 | (refine bodyPost_ret (results_none rfl _ _ _) rfl ?_)
  exact ⟨rfl, hR, hA⟩
set_option maxHeartbeats 1000000 in
theorem r4need_no (EV : Hid (EnvOk w0 rb a cc L)) (I : Nat) (hI : I ≤ 200000) (o p : Int) (s : ByteArray) (hn : isT L I s = false) (w : World) (hB : Al rb w0 w) (hR : Rd rb (.slice a L.length cc) w I o 0 p) :
    Calls Tryz.prog 163 #[.pointer (some ⟨rb, 0, none⟩), .string s] w fun e w' => e = .returned (.tuple #[]) ∧ Rd rb (.slice a L.length cc) w' I o 5 (atP L I) ∧ Al rb w w' := by
  have hh := r4take_no EV I hI o 0 p s (Or.inl hn) w hB hR
  have hf : Hid (∀ w1, Below w.heap.size w w1 → _) := fun w1 (h : Below w.heap.size w w1) => r4fail_yes EV I hI o p 5 w1 (hB.then h) (hR.below h)
  clear hB hR EV hn
  go_enter Tryz.func163, Tryz.ntmps163
  go_wp2_with fail
  refine hh.mono ?_
  rintro r w2 ⟨rfl, hb⟩
  clear hh
  go_wp2_with fail
  refine (hf.out w2 hb).mono ?_
  rintro r w3 ⟨rfl, hR, hA⟩
  have HA : Hid (Al rb w w3) := (Al.of hb).next hA
  clear hb hA hf
  go_wp2_with fail
  first | go_end0 | (refine bodyPost_ret (results_none rfl _ _ _) rfl ?_)
  exact ⟨rfl, hR, HA.out⟩
set_option maxHeartbeats 1000000 in
theorem r4need_fault (EV : Hid (EnvOk w0 rb a cc L)) (I : Nat) (hI : I ≤ 200000) (o c p : Int) (s : ByteArray) (hc : c ≠ 0) (w : World) (hB : Al rb w0 w) (hR : Rd rb (.slice a L.length cc) w I o c p) :
    Calls Tryz.prog 163 #[.pointer (some ⟨rb, 0, none⟩), .string s] w fun e w' => e = .returned (.tuple #[]) ∧ Below w.heap.size w w' := by
  have hh := r4take_no EV I hI o c p s (Or.inr hc) w hB hR
  have hf : Hid (∀ w1, Below w.heap.size w w1 → _) := fun w1 (h : Below w.heap.size w w1) => r4fail_no I o c p 5 hc _ w1 (hR.below h)
  clear hB hR EV hc
  go_enter Tryz.func163, Tryz.ntmps163
  go_wp2_with fail
  refine hh.mono ?_
  rintro r w2 ⟨rfl, hb⟩
  clear hh
  go_wp2_with fail
  refine (hf.out w2 hb).mono ?_
  rintro r w3 ⟨rfl, rfl⟩
  have HB := Lib.hid hb
  clear hb hf
  go_wp2_with fail
  first | go_end0 | (refine bodyPost_ret (results_none rfl _ _ _) rfl ?_)
  exact ⟨rfl, HB.out⟩
end
set_option maxHeartbeats 1000000 in
theorem r4join_no {rb : Nat} (I o c p op : Int) (hc : c ≠ 0) (tv u v : Value) (w : World) (hR : Rd rb tv w I o c p) :
    Calls Tryz.prog 122 #[.pointer (some ⟨rb, 0, none⟩), .int .i64 op, u, v] w fun r w' => r = .returned (.slice none 0 0) ∧ w' = w := by
  obtain ⟨c0, c1, c2, c3, c4⟩ := hR.cells
  have e0 : (c == 0) = false := by simp [hc]
  have e1 : (c != 0) = true := by simp [hc]
  clear hR hc
  go_enter Tryz.func122, Tryz.ntmps122
  go_wp2_with fail
  go_ret
  exact ⟨rfl, rfl⟩
set_option maxHeartbeats 1000000 in
theorem r4join_ok {rb : Nat} (I o p : Int) (tv : Value) (op : Int) (A B : Fo) (u v : Value) (w : World) (hR : Rd rb tv w I o 0 p) (hu : IsE w u (A.flat 0)) (hv : IsE w v (B.flat 0)) (hA : A.count = 1) (hB : B.count = 1) (hz : A.size + B.size ≤ 400000) (hop : 6 ≤ op ∧ op ≤ 20) :
    Calls Tryz.prog 122 #[.pointer (some ⟨rb, 0, none⟩), .int .i64 op, u, v] w fun r w' => ∃ v', r = .returned v' ∧ OwnE w.heap.size w' v' ((node op 0 noS (A.app B)).flat 0) ∧ Below w.heap.size w w' := by
  obtain ⟨c0, c1, c2, c3, c4⟩ := hR.cells
  obtain ⟨ua, uc, rfl, -, -⟩ := hu.form
  obtain ⟨va, vc, rfl, -, -⟩ := hv.form
  have nb := (Below.refl w.heap.size w).alloc (Nat.le_refl _) (.cells #[.slice ua (A.flat 0).length uc, .slice va (B.flat 0).length vc] 30)
  have hj := rJoin_any op 0 noS [A, B] (.slice (some ⟨w.heap.size, 0, none⟩) 2 2) (w.alloc (.cells #[.slice ua (A.flat 0).length uc, .slice va (B.flat 0).length vc] 30))
    (sg_two (Blk.new _ _ _) (Sl.below hu nb) (Sl.below hv nb)) (fun F hF => by simp at hF; rcases hF with rfl | rfl; exact hA; exact hB) (by simp [cat, Fo.size_app, Fo.size]; omega) (by omega) (fun _ => by
      rw [kids_leaf, if_neg (by omega), if_neg (by omega), if_neg (by omega), if_pos (by omega)]; rfl)
  rw [join_two op 0 A B (by omega)] at hj
  have HB := Lib.hid nb
  have HJ := Lib.hid hj
  generalize (A.flat 0).length = la at *
  generalize (B.flat 0).length = lb at *
  clear hR hu hv hz hop hj nb hA hB
  go_enter Tryz.func122, Tryz.ntmps122
  go_wp2_with fail
  refine HJ.out.mono ?_
  rintro r w1 ⟨v', rfl, ho, hb⟩
  have HO : Hid (OwnE w.heap.size w1 v' ((node op 0 noS (A.app B)).flat 0)) := ho.mono HB.out.size
  have HBB : Hid (Below w.heap.size w w1) := HB.out.trans (hb.mono HB.out.size)
  clear hb ho HJ HB
  go_wp2_with fail
  go_ret
  exact ⟨v', rfl, HO.out, HBB.out⟩
end Go.Proofs.YtjnpkdpljmkpiaaGreatDoor
namespace Go.Proofs.YtjnpkdpljmkpiaaGreatDoor
open Go.RowKit Go.Shelf Tx Px
def lvF : Nat → Nat
  | 0 => 104
  | 1 => 120
  | 2 => 133
  | 3 => 143
  | 4 => 151
  | 5 => 154
  | 6 => 155
  | 7 => 156
  | _ => 157
def LvOk (w0 : World) (rb : Nat) (a : Option Addr) (cc : Nat) (L : List Tok) (f : Nat) : Prop :=
  ∀ (n I o : Nat) (r : Res) (w : World), n ≤ 8 → I ≤ L.length → P L f (.bin n) I o = some r → Al rb w0 w → Rd rb (.slice a L.length cc) w I o 0 0 →
    Calls Tryz.prog (lvF n) #[.pointer (some ⟨rb, 0, none⟩)] w (RPost (Rd rb (.slice a L.length cc)) rb o w r)
section
variable {L : List Tok} {a : Option Addr} {cc rb : Nat} {w0 : World}
set_option maxRecDepth 100000 in
set_option maxHeartbeats 2000000 in
theorem r4since_any (EV : Hid (EnvOk w0 rb a cc L)) (f : Nat) (IH : Hid (∀ g, g < f → LvOk w0 rb a cc L g)) (I o : Nat) (r : Res) (w : World) (hI : I ≤ L.length) (hP : P L f (.bin 2) I o = some r) (hB : Al rb w0 w) (hR : Rd rb (.slice a L.length cc) w I o 0 0) :
    Calls Tryz.prog 133 #[.pointer (some ⟨rb, 0, none⟩)] w (RPost (Rd rb (.slice a L.length cc)) rb o w r) := by
  obtain ⟨g, rfl, hcs⟩ := bin_cases (by omega) hP
  have hL := EV.out.len
  have hlt := hR.lt
  obtain ⟨nb, hnb⟩ : ∃ nb, nb = w.heap.size := ⟨_, rfl⟩
  have HNB := Lib.hid hnb
  have HB := Lib.hid hB
  rw [← hnb] at hlt
  have h1 : ∀ r1, P L g (.bin 3) I o = some r1 → _ := fun r1 h => IH.out g (by omega) 3 I o r1 w (by omega) hI h hB hR
  have H1 : Hid (∀ r1, P L g (.bin 3) I o = some r1 → _) := h1
  have HC := Lib.hid hcs
  clear hP hcs h1 hB hR hnb
  obtain ⟨r1, hr1⟩ : ∃ r1, P L g (.bin 3) I o = some r1 := by
    rcases HC.out with ⟨e, h, _⟩ | ⟨a, i, h, _⟩
    · exact ⟨_, h⟩
    · exact ⟨_, h⟩
  have HR1 := Lib.hid hr1
  clear hr1
  go_enter Tryz.func133, Tryz.ntmps133
  go_wp2_with fail
  refine (H1.out r1 HR1.out).mono ?_
  rintro e w1 ⟨hA, hpost⟩
  have HLP : Hid (∃ av, e = .returned av ∧ (∃ x n k, av = .slice x n k) ∧ LpR (Rd rb (.slice a L.length cc)) L rb nb o w 2 (g + 1) r av w1) := by
    rcases HC.out with ⟨⟨c, p⟩, h, h2⟩ | ⟨F, i, h, h2⟩
    · have h3 := HR1.out.symm.trans h
      cases h3
      obtain ⟨x, n, k, i, h4, h5, h6, h7⟩ := hpost
      exact ⟨_, h4, ⟨_, _, _, rfl⟩, hA, Or.inr ⟨c, p, x, n, k, i, h2, h5, h6, h7, rfl⟩⟩
    · have h3 := HR1.out.symm.trans h
      cases h3
      obtain ⟨F', v, h4, h5, h6, h7⟩ := hpost
      cases h4
      obtain ⟨g1, g2, g3, g4⟩ := (P_ok EV.out.ok g).bin hI h
      obtain ⟨va, vc, hv, -⟩ := h6.form
      exact ⟨v, h5, ⟨_, _, _, hv⟩, hA, Or.inl ⟨F, i, g, by omega, by rw [HNB.out]; exact h6, g1, by omega, g3, h7, h2⟩⟩
  obtain ⟨av, rfl, ⟨ax, an, ak, rfl⟩, hlp⟩ := HLP.out
  have HLP2 := Lib.hid hlp
  clear HLP hlp hpost hA H1 HR1 HC
  go_wp2_with fail
  go_loopw [3] (fun av wr => LpR (Rd rb (.slice a L.length cc)) L rb nb o w 2 (g + 1) r av wr) (fun _ wr => mR rb 1 3 L.length wr)
  case atStart => exact HLP2.out
  case round =>
    obtain ⟨hA, ⟨F, i, g2, hg2, hO, hG, hF, hi, hR, hP⟩ | ⟨c, p, x, n, k, i, hr, hc, hi, hR, rfl⟩⟩ := hrel
    · have hBr : Al rb w0 wr := HB.out.next hA
      obtain ⟨va, vc, rfl, -⟩ := hO.form
      have hfr := mR_ok (N := L.length) hR.cells.2.1 hR.cells.2.2.2.1
      have HM := Lib.hid hfr
      rcases loop_cases hP with ⟨hn, rfl⟩ | ⟨g3, s, op, sw, rfl, hs, hop, hrest⟩
      · have ht := r4take_no EV i (by omega) o 0 0 ⟨#[115, 105, 110, 99, 101]⟩ (Or.inl (isT_none hn (by decide))) wr hBr hR
        have HE : Hid (∀ w2, Below wr.heap.size wr w2 → RPost (Rd rb (.slice a L.length cc)) rb o w (.ok ([F], i)) (.returned (.slice va (F.flat 0).length vc)) w2) := fun w2 hb => rpost_ok (hA.then hb) (by rw [← HNB.out]; exact hO.below hb) (hR.below hb)
        clear hP hn hBr hA hO hG hF hi hR hfr
        go_wp2_with fail
        refine ht.mono ?_
        rintro r2 w2 ⟨rfl, hb⟩
        have HB2 := Lib.hid hb
        clear ht hb
        go_wp2_with fail
        go_ret
        exact HE.out w2 HB2.out
      · have hso : s = ⟨#[115, 105, 110, 99, 101]⟩ ∧ op = 20 ∧ sw = false := by
          unfold Px.opAt at hop
          simp only at hop
          split at hop
          · rename_i e; cases hop; exact ⟨e, rfl, rfl⟩
          · cases hop
        obtain ⟨rfl, rfl, rfl⟩ := hso
        have ht := r4take_yes EV i (by omega) o 0 ⟨#[115, 105, 110, 99, 101]⟩ (by rw [isT_some hs]; simp) wr hBr hR
        have hil : i < L.length := hereT_lt hs
        have HO := Lib.hid hO
        have HG := Lib.hid hG
        have HA := Lib.hid hA
        have HBR := Lib.hid hBr
        have HRS := Lib.hid hrest
        have hrw : nb ≤ wr.heap.size := by rw [HNB.out]; exact hA.size
        clear hP hs hop hBr hA hO hG hR hfr hrest
        go_wp2_with fail
        refine ht.mono ?_
        rintro r2 w2 ⟨rfl, hR2, hA2⟩
        obtain ⟨r3, hr3⟩ : ∃ r3, P L g3 (.bin 3) (i + 1) o = some r3 := by
          rcases HRS.out with ⟨e, h, _⟩ | ⟨a, i, h, _⟩
          · exact ⟨_, h⟩
          · exact ⟨_, h⟩
        have hcall := IH.out g3 (by omega) 3 (i + 1) o r3 w2 (by omega) (by omega) hr3 (HBR.out.next hA2) (by simpa using hR2)
        have HR3 := Lib.hid hr3
        have HA2 : Hid (Al rb w w2) := HA.out.next hA2
        have HO2 : Hid (OwnE nb w2 (.slice va (F.flat 0).length vc) (F.flat 0)) := hA2.ownE HO.out hlt
        have hrw2 : nb ≤ w2.heap.size := by have := hA2.size; omega
        clear ht hR2 hA2 hr3 HA HO HBR hrw
        go_wp2_with fail
        refine hcall.mono ?_
        rintro e w3 ⟨hA3, hpost⟩
        have HA3 : Hid (Al rb w w3) := HA2.out.next hA3
        have HO3 := Lib.hid (hA3.ownE HO2.out hlt)
        have hrw3 : nb ≤ w3.heap.size := by have := hA3.size; omega
        clear hcall hA3
        match r3, hpost with
        | .error (c, p), ⟨y, yn, yk, i3, he, hc, hi3, hR3⟩ =>
          subst he
          have hj := r4join_no i3 o c p 20 hc _ (.slice va (F.flat 0).length vc) (.slice y yn yk) w3 hR3
          have HRE : Hid (r = .error (c, p)) := by
            rcases HRS.out with ⟨e, h, h2⟩ | ⟨a, i, h, _⟩
            · have h3 := HR3.out.symm.trans h; cases h3; exact h2
            · have h3 := HR3.out.symm.trans h; cases h3
          have HR4 := Lib.hid hR3
          clear hR3
          go_wp2_with fail
          refine hj.mono ?_
          rintro r4 w4 ⟨rfl, rfl⟩
          clear hj
          go_wp2_with fail
          go_roundw
          case rel => exact ⟨HA3.out, Or.inr ⟨c, p, none, 0, 0, i3, HRE.out, hc, hi3, HR4.out, rfl⟩⟩
          case measure => rw [HM.out, mR_err HR4.out.cells.2.2.2.1 hc]; omega
        | .ok (l, j), ⟨G, v, hl, he, hO4, hR4⟩ =>
          subst hl he
          obtain ⟨g1, g2, g3', g4⟩ := (P_ok EV.out.ok g3).bin (by omega) HR3.out
          obtain ⟨ya, yc, rfl, -⟩ := hO4.form
          have hj := r4join_ok j o 0 _ 20 F G (.slice va (F.flat 0).length vc) (.slice ya (G.flat 0).length yc) w3 hR4 HO3.out.isE hO4.isE HG.out.one g1.one (by omega) (by omega)
          have HRE : Hid (P L g3 (.loop 2 (both 20 false F G)) j o = some r) := by
            rcases HRS.out with ⟨e, h, h2⟩ | ⟨a, i, h, h2⟩
            · have h3 := HR3.out.symm.trans h; cases h3
            · have h3 := HR3.out.symm.trans h; cases h3
              rcases h2 with ⟨h2, _⟩ | ⟨_, h2⟩
              · omega
              · exact h2
          have HR5 := Lib.hid hR4
          have HGG := Lib.hid g1
          clear hR4 hO4 g1
          go_wp2_with fail
          refine hj.mono ?_
          rintro r4 w4 ⟨v4, rfl, ho, hb⟩
          have HR6 := Lib.hid (HR5.out.below hb)
          have HA6 := Lib.hid (HA3.out.then hb)
          have HO6 := Lib.hid (ho.mono hrw3)
          have hv := both_size 20 false F G
          have HV := Lib.hid hv
          clear hj ho hb hv
          go_wp2_with fail
          go_roundw
          case rel => exact ⟨HA6.out, Or.inl ⟨both 20 false F G, j, g3, by omega, HO6.out, both_good (by omega) HG.out HGG.out, by rw [HV.out]; omega, g3', HR6.out, HRE.out⟩⟩
          case measure => rw [HM.out, mR_ok HR6.out.cells.2.1 HR6.out.cells.2.2.2.1]; omega
    · have ht := r4take_no EV i hi o c p ⟨#[115, 105, 110, 99, 101]⟩ (Or.inr hc) wr (HB.out.next hA) hR
      have HE : Hid (∀ w2, Below wr.heap.size wr w2 → RPost (Rd rb (.slice a L.length cc)) rb o w r (.returned (.slice x n k)) w2) := fun w2 hb => by rw [hr]; exact rpost_err (hA.then hb) hc hi (hR.below hb)
      clear hA hR hr hc hi
      go_wp2_with fail
      refine ht.mono ?_
      rintro r2 w2 ⟨rfl, hb⟩
      have HB2 := Lib.hid hb
      clear ht hb
      go_wp2_with fail
      go_ret
      exact HE.out w2 HB2.out
end
end Go.Proofs.YtjnpkdpljmkpiaaGreatDoor
namespace Go.Proofs.YtjnpkdpljmkpiaaGreatDoor
open Go.RowKit Go.Shelf Tx Px
section
variable {L : List Tok} {a : Option Addr} {cc rb : Nat} {w0 : World}
set_option maxRecDepth 100000 in
set_option maxHeartbeats 1000000 in
theorem r4operand_fault (_EV : Hid (EnvOk w0 rb a cc L)) (i : Nat) (_hi : i ≤ 200000) (o c p : Int) (hc : c ≠ 0) (w : World) (_hB : Al rb w0 w) (hR : Rd rb (.slice a L.length cc) w i o c p) :
    Calls Tryz.prog 157 #[.pointer (some ⟨rb, 0, none⟩)] w fun e w' => e = .returned (.slice none 0 0) ∧ Below w.heap.size w w' := by
  obtain ⟨c0, c1, c2, c3, c4⟩ := hR.cells
  have e0 : (c == 0) = false := by simp [hc]
  have e1 : (c != 0) = true := by simp [hc]
  clear hR hc _hB _EV
  go_enter Tryz.func157, Tryz.ntmps157
  go_wp2_with fail
  go_ret
  exact ⟨rfl, Below.refl _ _⟩
set_option maxRecDepth 100000 in
set_option maxHeartbeats 1000000 in
theorem r4prod_fault (EV : Hid (EnvOk w0 rb a cc L)) (i : Nat) (hi : i ≤ 200000) (o c p : Int) (hc : c ≠ 0) (w : World) (hB : Al rb w0 w) (hR : Rd rb (.slice a L.length cc) w i o c p) :
    Calls Tryz.prog 156 #[.pointer (some ⟨rb, 0, none⟩)] w fun e w' => e = .returned (.slice none 0 0) ∧ Below w.heap.size w w' := by
  have hn := r4operand_fault EV i hi o c p hc w hB hR
  have HB := Lib.hid hB
  have HR := Lib.hid hR
  have HC := Lib.hid hc
  clear hB hR hc
  go_enter Tryz.func156, Tryz.ntmps156
  go_wp2_with fail
  refine hn.mono ?_
  rintro r w1 ⟨rfl, hb⟩
  have HBL := Lib.hid hb
  clear hn hb
  obtain ⟨nb, hnb⟩ : ∃ nb, nb = w.heap.size := ⟨_, rfl⟩
  have HNB := Lib.hid hnb
  rw [← hnb] at HBL
  clear hnb
  go_wp2_with fail
  go_loopw [3] (fun av wr => av = .slice none 0 0 ∧ Below nb w wr) (fun _ _ => 0)
  case atStart => exact ⟨rfl, HBL.out⟩
  case round =>
  obtain ⟨rfl, hbl⟩ := hrel
  have HBL0 : Hid (Below w.heap.size w wr) := by rw [HNB.out] at hbl; exact hbl
  clear hbl
  have hc := r4is_no EV i hi o c p ⟨#[42]⟩ (Or.inr HC.out) wr (HB.out.then HBL0.out) (HR.out.below HBL0.out)
  go_wp2_with fail
  refine hc.mono ?_
  rintro r v1 ⟨rfl, hb⟩
  have HBL1 := Lib.hid (below_next HBL0.out hb)
  clear hc hb HBL0
  have hc := r4is_no EV i hi o c p ⟨#[100, 105, 118]⟩ (Or.inr HC.out) v1 (HB.out.then HBL1.out) (HR.out.below HBL1.out)
  go_wp2_with fail
  refine hc.mono ?_
  rintro r v2 ⟨rfl, hb⟩
  have HBL2 := Lib.hid (below_next HBL1.out hb)
  clear hc hb HBL1
  have hc := r4is_no EV i hi o c p ⟨#[109, 111, 100]⟩ (Or.inr HC.out) v2 (HB.out.then HBL2.out) (HR.out.below HBL2.out)
  go_wp2_with fail
  refine hc.mono ?_
  rintro r v3 ⟨rfl, hb⟩
  have HBL3 := Lib.hid (below_next HBL2.out hb)
  clear hc hb HBL2
  go_wp2_with fail
  go_ret
  exact ⟨rfl, HBL3.out⟩
set_option maxRecDepth 100000 in
set_option maxHeartbeats 1000000 in
theorem r4sum_fault (EV : Hid (EnvOk w0 rb a cc L)) (i : Nat) (hi : i ≤ 200000) (o c p : Int) (hc : c ≠ 0) (w : World) (hB : Al rb w0 w) (hR : Rd rb (.slice a L.length cc) w i o c p) :
    Calls Tryz.prog 155 #[.pointer (some ⟨rb, 0, none⟩)] w fun e w' => e = .returned (.slice none 0 0) ∧ Below w.heap.size w w' := by
  have hn := r4prod_fault EV i hi o c p hc w hB hR
  have HB := Lib.hid hB
  have HR := Lib.hid hR
  have HC := Lib.hid hc
  clear hB hR hc
  go_enter Tryz.func155, Tryz.ntmps155
  go_wp2_with fail
  refine hn.mono ?_
  rintro r w1 ⟨rfl, hb⟩
  have HBL := Lib.hid hb
  clear hn hb
  obtain ⟨nb, hnb⟩ : ∃ nb, nb = w.heap.size := ⟨_, rfl⟩
  have HNB := Lib.hid hnb
  rw [← hnb] at HBL
  clear hnb
  go_wp2_with fail
  go_loopw [3] (fun av wr => av = .slice none 0 0 ∧ Below nb w wr) (fun _ _ => 0)
  case atStart => exact ⟨rfl, HBL.out⟩
  case round =>
  obtain ⟨rfl, hbl⟩ := hrel
  have HBL0 : Hid (Below w.heap.size w wr) := by rw [HNB.out] at hbl; exact hbl
  clear hbl
  have hc := r4is_no EV i hi o c p ⟨#[43]⟩ (Or.inr HC.out) wr (HB.out.then HBL0.out) (HR.out.below HBL0.out)
  go_wp2_with fail
  refine hc.mono ?_
  rintro r v1 ⟨rfl, hb⟩
  have HBL1 := Lib.hid (below_next HBL0.out hb)
  clear hc hb HBL0
  have hc := r4is_no EV i hi o c p ⟨#[45]⟩ (Or.inr HC.out) v1 (HB.out.then HBL1.out) (HR.out.below HBL1.out)
  go_wp2_with fail
  refine hc.mono ?_
  rintro r v2 ⟨rfl, hb⟩
  have HBL2 := Lib.hid (below_next HBL1.out hb)
  clear hc hb HBL1
  go_wp2_with fail
  go_ret
  exact ⟨rfl, HBL2.out⟩
set_option maxRecDepth 100000 in
set_option maxHeartbeats 1000000 in
theorem r4cmp_fault (EV : Hid (EnvOk w0 rb a cc L)) (i : Nat) (hi : i ≤ 200000) (o c p : Int) (hc : c ≠ 0) (w : World) (hB : Al rb w0 w) (hR : Rd rb (.slice a L.length cc) w i o c p) :
    Calls Tryz.prog 154 #[.pointer (some ⟨rb, 0, none⟩)] w fun e w' => e = .returned (.slice none 0 0) ∧ Below w.heap.size w w' := by
  have hn := r4sum_fault EV i hi o c p hc w hB hR
  have HB := Lib.hid hB
  have HR := Lib.hid hR
  have HC := Lib.hid hc
  clear hB hR hc
  go_enter Tryz.func154, Tryz.ntmps154
  go_wp2_with fail
  refine hn.mono ?_
  rintro r w1 ⟨rfl, hb⟩
  have HBL := Lib.hid hb
  clear hn hb
  obtain ⟨nb, hnb⟩ : ∃ nb, nb = w.heap.size := ⟨_, rfl⟩
  have HNB := Lib.hid hnb
  rw [← hnb] at HBL
  have HBL0 : Hid (Below w.heap.size w w1) := by rw [hnb] at HBL; exact HBL
  clear hnb
  have hc := r4take_no EV i hi o c p ⟨#[61]⟩ (Or.inr HC.out) w1 (HB.out.then HBL0.out) (HR.out.below HBL0.out)
  go_wp2_with fail
  refine hc.mono ?_
  rintro r v1 ⟨rfl, hb⟩
  have HBL1 := Lib.hid (below_next HBL0.out hb)
  clear hc hb HBL0
  have hc := r4take_no EV i hi o c p ⟨#[60, 62]⟩ (Or.inr HC.out) v1 (HB.out.then HBL1.out) (HR.out.below HBL1.out)
  go_wp2_with fail
  refine hc.mono ?_
  rintro r v2 ⟨rfl, hb⟩
  have HBL2 := Lib.hid (below_next HBL1.out hb)
  clear hc hb HBL1
  have hc := r4take_no EV i hi o c p ⟨#[60]⟩ (Or.inr HC.out) v2 (HB.out.then HBL2.out) (HR.out.below HBL2.out)
  go_wp2_with fail
  refine hc.mono ?_
  rintro r v3 ⟨rfl, hb⟩
  have HBL3 := Lib.hid (below_next HBL2.out hb)
  clear hc hb HBL2
  have hc := r4take_no EV i hi o c p ⟨#[60, 61]⟩ (Or.inr HC.out) v3 (HB.out.then HBL3.out) (HR.out.below HBL3.out)
  go_wp2_with fail
  refine hc.mono ?_
  rintro r v4 ⟨rfl, hb⟩
  have HBL4 := Lib.hid (below_next HBL3.out hb)
  clear hc hb HBL3
  have hc := r4take_no EV i hi o c p ⟨#[62]⟩ (Or.inr HC.out) v4 (HB.out.then HBL4.out) (HR.out.below HBL4.out)
  go_wp2_with fail
  refine hc.mono ?_
  rintro r v5 ⟨rfl, hb⟩
  have HBL5 := Lib.hid (below_next HBL4.out hb)
  clear hc hb HBL4
  have hc := r4take_no EV i hi o c p ⟨#[62, 61]⟩ (Or.inr HC.out) v5 (HB.out.then HBL5.out) (HR.out.below HBL5.out)
  go_wp2_with fail
  refine hc.mono ?_
  rintro r v6 ⟨rfl, hb⟩
  have HBL6 := Lib.hid (below_next HBL5.out hb)
  clear hc hb HBL5
  go_wp2_with fail
  go_ret
  exact ⟨rfl, HBL6.out⟩
set_option maxRecDepth 100000 in
set_option maxHeartbeats 1000000 in
theorem r4and_fault (EV : Hid (EnvOk w0 rb a cc L)) (i : Nat) (hi : i ≤ 200000) (o c p : Int) (hc : c ≠ 0) (w : World) (hB : Al rb w0 w) (hR : Rd rb (.slice a L.length cc) w i o c p) :
    Calls Tryz.prog 151 #[.pointer (some ⟨rb, 0, none⟩)] w fun e w' => e = .returned (.slice none 0 0) ∧ Below w.heap.size w w' := by
  have hn := r4cmp_fault EV i hi o c p hc w hB hR
  have HB := Lib.hid hB
  have HR := Lib.hid hR
  have HC := Lib.hid hc
  clear hB hR hc
  go_enter Tryz.func151, Tryz.ntmps151
  go_wp2_with fail
  refine hn.mono ?_
  rintro r w1 ⟨rfl, hb⟩
  have HBL := Lib.hid hb
  clear hn hb
  obtain ⟨nb, hnb⟩ : ∃ nb, nb = w.heap.size := ⟨_, rfl⟩
  have HNB := Lib.hid hnb
  rw [← hnb] at HBL
  clear hnb
  go_wp2_with fail
  go_loopw [3] (fun av wr => av = .slice none 0 0 ∧ Below nb w wr) (fun _ _ => 0)
  case atStart => exact ⟨rfl, HBL.out⟩
  case round =>
  obtain ⟨rfl, hbl⟩ := hrel
  have HBL0 : Hid (Below w.heap.size w wr) := by rw [HNB.out] at hbl; exact hbl
  clear hbl
  have hc := r4take_no EV i hi o c p ⟨#[97, 110, 100]⟩ (Or.inr HC.out) wr (HB.out.then HBL0.out) (HR.out.below HBL0.out)
  go_wp2_with fail
  refine hc.mono ?_
  rintro r v1 ⟨rfl, hb⟩
  have HBL1 := Lib.hid (below_next HBL0.out hb)
  clear hc hb HBL0
  go_wp2_with fail
  go_ret
  exact ⟨rfl, HBL1.out⟩
set_option maxRecDepth 100000 in
set_option maxHeartbeats 1000000 in
theorem r4or_fault (EV : Hid (EnvOk w0 rb a cc L)) (i : Nat) (hi : i ≤ 200000) (o c p : Int) (hc : c ≠ 0) (w : World) (hB : Al rb w0 w) (hR : Rd rb (.slice a L.length cc) w i o c p) :
    Calls Tryz.prog 143 #[.pointer (some ⟨rb, 0, none⟩)] w fun e w' => e = .returned (.slice none 0 0) ∧ Below w.heap.size w w' := by
  have hn := r4and_fault EV i hi o c p hc w hB hR
  have HB := Lib.hid hB
  have HR := Lib.hid hR
  have HC := Lib.hid hc
  clear hB hR hc
  go_enter Tryz.func143, Tryz.ntmps143
  go_wp2_with fail
  refine hn.mono ?_
  rintro r w1 ⟨rfl, hb⟩
  have HBL := Lib.hid hb
  clear hn hb
  obtain ⟨nb, hnb⟩ : ∃ nb, nb = w.heap.size := ⟨_, rfl⟩
  have HNB := Lib.hid hnb
  rw [← hnb] at HBL
  clear hnb
  go_wp2_with fail
  go_loopw [3] (fun av wr => av = .slice none 0 0 ∧ Below nb w wr) (fun _ _ => 0)
  case atStart => exact ⟨rfl, HBL.out⟩
  case round =>
  obtain ⟨rfl, hbl⟩ := hrel
  have HBL0 : Hid (Below w.heap.size w wr) := by rw [HNB.out] at hbl; exact hbl
  clear hbl
  have hc := r4is_no EV i hi o c p ⟨#[111, 114]⟩ (Or.inr HC.out) wr (HB.out.then HBL0.out) (HR.out.below HBL0.out)
  go_wp2_with fail
  refine hc.mono ?_
  rintro r v1 ⟨rfl, hb⟩
  have HBL1 := Lib.hid (below_next HBL0.out hb)
  clear hc hb HBL0
  have hc := r4is_no EV i hi o c p ⟨#[120, 111, 114]⟩ (Or.inr HC.out) v1 (HB.out.then HBL1.out) (HR.out.below HBL1.out)
  go_wp2_with fail
  refine hc.mono ?_
  rintro r v2 ⟨rfl, hb⟩
  have HBL2 := Lib.hid (below_next HBL1.out hb)
  clear hc hb HBL1
  go_wp2_with fail
  go_ret
  exact ⟨rfl, HBL2.out⟩
set_option maxRecDepth 100000 in
set_option maxHeartbeats 1000000 in
theorem r4since_fault (EV : Hid (EnvOk w0 rb a cc L)) (i : Nat) (hi : i ≤ 200000) (o c p : Int) (hc : c ≠ 0) (w : World) (hB : Al rb w0 w) (hR : Rd rb (.slice a L.length cc) w i o c p) :
    Calls Tryz.prog 133 #[.pointer (some ⟨rb, 0, none⟩)] w fun e w' => e = .returned (.slice none 0 0) ∧ Below w.heap.size w w' := by
  have hn := r4or_fault EV i hi o c p hc w hB hR
  have HB := Lib.hid hB
  have HR := Lib.hid hR
  have HC := Lib.hid hc
  clear hB hR hc
  go_enter Tryz.func133, Tryz.ntmps133
  go_wp2_with fail
  refine hn.mono ?_
  rintro r w1 ⟨rfl, hb⟩
  have HBL := Lib.hid hb
  clear hn hb
  obtain ⟨nb, hnb⟩ : ∃ nb, nb = w.heap.size := ⟨_, rfl⟩
  have HNB := Lib.hid hnb
  rw [← hnb] at HBL
  clear hnb
  go_wp2_with fail
  go_loopw [3] (fun av wr => av = .slice none 0 0 ∧ Below nb w wr) (fun _ _ => 0)
  case atStart => exact ⟨rfl, HBL.out⟩
  case round =>
  obtain ⟨rfl, hbl⟩ := hrel
  have HBL0 : Hid (Below w.heap.size w wr) := by rw [HNB.out] at hbl; exact hbl
  clear hbl
  have hc := r4take_no EV i hi o c p ⟨#[115, 105, 110, 99, 101]⟩ (Or.inr HC.out) wr (HB.out.then HBL0.out) (HR.out.below HBL0.out)
  go_wp2_with fail
  refine hc.mono ?_
  rintro r v1 ⟨rfl, hb⟩
  have HBL1 := Lib.hid (below_next HBL0.out hb)
  clear hc hb HBL0
  go_wp2_with fail
  go_ret
  exact ⟨rfl, HBL1.out⟩
set_option maxRecDepth 100000 in
set_option maxHeartbeats 1000000 in
theorem r4imp_fault (EV : Hid (EnvOk w0 rb a cc L)) (i : Nat) (hi : i ≤ 200000) (o c p : Int) (hc : c ≠ 0) (w : World) (hB : Al rb w0 w) (hR : Rd rb (.slice a L.length cc) w i o c p) :
    Calls Tryz.prog 120 #[.pointer (some ⟨rb, 0, none⟩)] w fun e w' => e = .returned (.slice none 0 0) ∧ Below w.heap.size w w' := by
  have hn := r4since_fault EV i hi o c p hc w hB hR
  have HB := Lib.hid hB
  have HR := Lib.hid hR
  have HC := Lib.hid hc
  clear hB hR hc
  go_enter Tryz.func120, Tryz.ntmps120
  go_wp2_with fail
  refine hn.mono ?_
  rintro r w1 ⟨rfl, hb⟩
  have HBL := Lib.hid hb
  clear hn hb
  obtain ⟨nb, hnb⟩ : ∃ nb, nb = w.heap.size := ⟨_, rfl⟩
  have HNB := Lib.hid hnb
  rw [← hnb] at HBL
  have HBL0 : Hid (Below w.heap.size w w1) := by rw [hnb] at HBL; exact HBL
  clear hnb
  have hc := r4take_no EV i hi o c p ⟨#[61, 62]⟩ (Or.inr HC.out) w1 (HB.out.then HBL0.out) (HR.out.below HBL0.out)
  go_wp2_with fail
  refine hc.mono ?_
  rintro r v1 ⟨rfl, hb⟩
  have HBL1 := Lib.hid (below_next HBL0.out hb)
  clear hc hb HBL0
  go_wp2_with fail
  go_ret
  exact ⟨rfl, HBL1.out⟩
set_option maxRecDepth 100000 in
set_option maxHeartbeats 1000000 in
theorem r4Arrow_fault (EV : Hid (EnvOk w0 rb a cc L)) (i : Nat) (hi : i ≤ 200000) (o c p : Int) (hc : c ≠ 0) (w : World) (hB : Al rb w0 w) (hR : Rd rb (.slice a L.length cc) w i o c p) :
    Calls Tryz.prog 104 #[.pointer (some ⟨rb, 0, none⟩)] w fun e w' => e = .returned (.slice none 0 0) ∧ Below w.heap.size w w' := by
  have hn := r4imp_fault EV i hi o c p hc w hB hR
  have HB := Lib.hid hB
  have HR := Lib.hid hR
  have HC := Lib.hid hc
  clear hB hR hc
  go_enter Tryz.func104, Tryz.ntmps104
  go_wp2_with fail
  refine hn.mono ?_
  rintro r w1 ⟨rfl, hb⟩
  have HBL := Lib.hid hb
  clear hn hb
  obtain ⟨nb, hnb⟩ : ∃ nb, nb = w.heap.size := ⟨_, rfl⟩
  have HNB := Lib.hid hnb
  rw [← hnb] at HBL
  have HBL0 : Hid (Below w.heap.size w w1) := by rw [hnb] at HBL; exact HBL
  clear hnb
  have hc := r4take_no EV i hi o c p ⟨#[45, 62]⟩ (Or.inr HC.out) w1 (HB.out.then HBL0.out) (HR.out.below HBL0.out)
  go_wp2_with fail
  refine hc.mono ?_
  rintro r v1 ⟨rfl, hb⟩
  have HBL1 := Lib.hid (below_next HBL0.out hb)
  clear hc hb HBL0
  go_wp2_with fail
  go_ret
  exact ⟨rfl, HBL1.out⟩
end
end Go.Proofs.YtjnpkdpljmkpiaaGreatDoor
namespace Go.Proofs.YtjnpkdpljmkpiaaGreatDoor
open Go.RowKit Go.Shelf Tx Px
section
variable {L : List Tok} {a : Option Addr} {cc rb : Nat} {w0 : World}
set_option maxRecDepth 100000 in
set_option maxHeartbeats 2000000 in
theorem r4and_any (EV : Hid (EnvOk w0 rb a cc L)) (f : Nat) (IH : Hid (∀ g, g < f → LvOk w0 rb a cc L g)) (I o : Nat) (r : Res) (w : World) (hI : I ≤ L.length) (hP : P L f (.bin 4) I o = some r) (hB : Al rb w0 w) (hR : Rd rb (.slice a L.length cc) w I o 0 0) :
    Calls Tryz.prog 151 #[.pointer (some ⟨rb, 0, none⟩)] w (RPost (Rd rb (.slice a L.length cc)) rb o w r) := by
  obtain ⟨g, rfl, hcs⟩ := bin_cases (by omega) hP
  have hL := EV.out.len
  have hlt := hR.lt
  obtain ⟨nb, hnb⟩ : ∃ nb, nb = w.heap.size := ⟨_, rfl⟩
  have HNB := Lib.hid hnb
  have HB := Lib.hid hB
  rw [← hnb] at hlt
  have h1 : ∀ r1, P L g (.bin 5) I o = some r1 → _ := fun r1 h => IH.out g (by omega) 5 I o r1 w (by omega) hI h hB hR
  have H1 : Hid (∀ r1, P L g (.bin 5) I o = some r1 → _) := h1
  have HC := Lib.hid hcs
  clear hP hcs h1 hB hR hnb
  obtain ⟨r1, hr1⟩ : ∃ r1, P L g (.bin 5) I o = some r1 := by
    rcases HC.out with ⟨e, h, _⟩ | ⟨a, i, h, _⟩
    · exact ⟨_, h⟩
    · exact ⟨_, h⟩
  have HR1 := Lib.hid hr1
  clear hr1
  go_enter Tryz.func151, Tryz.ntmps151
  go_wp2_with fail
  refine (H1.out r1 HR1.out).mono ?_
  rintro e w1 ⟨hA, hpost⟩
  have HLP : Hid (∃ av, e = .returned av ∧ (∃ x n k, av = .slice x n k) ∧ LpR (Rd rb (.slice a L.length cc)) L rb nb o w 4 (g + 1) r av w1) := by
    rcases HC.out with ⟨⟨c, p⟩, h, h2⟩ | ⟨F, i, h, h2⟩
    · have h3 := HR1.out.symm.trans h
      cases h3
      obtain ⟨x, n, k, i, h4, h5, h6, h7⟩ := hpost
      exact ⟨_, h4, ⟨_, _, _, rfl⟩, hA, Or.inr ⟨c, p, x, n, k, i, h2, h5, h6, h7, rfl⟩⟩
    · have h3 := HR1.out.symm.trans h
      cases h3
      obtain ⟨F', v, h4, h5, h6, h7⟩ := hpost
      cases h4
      obtain ⟨g1, g2, g3, g4⟩ := (P_ok EV.out.ok g).bin hI h
      obtain ⟨va, vc, hv, -⟩ := h6.form
      exact ⟨v, h5, ⟨_, _, _, hv⟩, hA, Or.inl ⟨F, i, g, by omega, by rw [HNB.out]; exact h6, g1, by omega, g3, h7, h2⟩⟩
  obtain ⟨av, rfl, ⟨ax, an, ak, rfl⟩, hlp⟩ := HLP.out
  have HLP2 := Lib.hid hlp
  clear HLP hlp hpost hA H1 HR1 HC
  go_wp2_with fail
  go_loopw [3] (fun av wr => LpR (Rd rb (.slice a L.length cc)) L rb nb o w 4 (g + 1) r av wr) (fun _ wr => mR rb 1 3 L.length wr)
  case atStart => exact HLP2.out
  case round =>
    obtain ⟨hA, ⟨F, i, g2, hg2, hO, hG, hF, hi, hR, hP⟩ | ⟨c, p, x, n, k, i, hr, hc, hi, hR, rfl⟩⟩ := hrel
    · have hBr : Al rb w0 wr := HB.out.next hA
      obtain ⟨va, vc, rfl, -⟩ := hO.form
      have hfr := mR_ok (N := L.length) hR.cells.2.1 hR.cells.2.2.2.1
      have HM := Lib.hid hfr
      rcases loop_cases hP with ⟨hn, rfl⟩ | ⟨g3, s, op, sw, rfl, hs, hop, hrest⟩
      · have ht := r4take_no EV i (by omega) o 0 0 ⟨#[97, 110, 100]⟩ (Or.inl (isT_none hn (by decide))) wr hBr hR
        have HE : Hid (∀ w2, Below wr.heap.size wr w2 → RPost (Rd rb (.slice a L.length cc)) rb o w (.ok ([F], i)) (.returned (.slice va (F.flat 0).length vc)) w2) := fun w2 hb => rpost_ok (hA.then hb) (by rw [← HNB.out]; exact hO.below hb) (hR.below hb)
        clear hP hn hBr hA hO hG hF hi hR hfr
        go_wp2_with fail
        refine ht.mono ?_
        rintro r2 w2 ⟨rfl, hb⟩
        have HB2 := Lib.hid hb
        clear ht hb
        go_wp2_with fail
        go_ret
        exact HE.out w2 HB2.out
      · have hso : s = ⟨#[97, 110, 100]⟩ ∧ op = 6 ∧ sw = false := by
          unfold Px.opAt at hop
          simp only at hop
          split at hop
          · rename_i e; cases hop; exact ⟨e, rfl, rfl⟩
          · cases hop
        obtain ⟨rfl, rfl, rfl⟩ := hso
        have ht := r4take_yes EV i (by omega) o 0 ⟨#[97, 110, 100]⟩ (by rw [isT_some hs]; simp) wr hBr hR
        have hil : i < L.length := hereT_lt hs
        have HO := Lib.hid hO
        have HG := Lib.hid hG
        have HA := Lib.hid hA
        have HBR := Lib.hid hBr
        have HRS := Lib.hid hrest
        have hrw : nb ≤ wr.heap.size := by rw [HNB.out]; exact hA.size
        clear hP hs hop hBr hA hO hG hR hfr hrest
        go_wp2_with fail
        refine ht.mono ?_
        rintro r2 w2 ⟨rfl, hR2, hA2⟩
        obtain ⟨r3, hr3⟩ : ∃ r3, P L g3 (.bin 5) (i + 1) o = some r3 := by
          rcases HRS.out with ⟨e, h, _⟩ | ⟨a, i, h, _⟩
          · exact ⟨_, h⟩
          · exact ⟨_, h⟩
        have hcall := IH.out g3 (by omega) 5 (i + 1) o r3 w2 (by omega) (by omega) hr3 (HBR.out.next hA2) (by simpa using hR2)
        have HR3 := Lib.hid hr3
        have HA2 : Hid (Al rb w w2) := HA.out.next hA2
        have HO2 : Hid (OwnE nb w2 (.slice va (F.flat 0).length vc) (F.flat 0)) := hA2.ownE HO.out hlt
        have hrw2 : nb ≤ w2.heap.size := by have := hA2.size; omega
        clear ht hR2 hA2 hr3 HA HO HBR hrw
        go_wp2_with fail
        refine hcall.mono ?_
        rintro e w3 ⟨hA3, hpost⟩
        have HA3 : Hid (Al rb w w3) := HA2.out.next hA3
        have HO3 := Lib.hid (hA3.ownE HO2.out hlt)
        have hrw3 : nb ≤ w3.heap.size := by have := hA3.size; omega
        clear hcall hA3
        match r3, hpost with
        | .error (c, p), ⟨y, yn, yk, i3, he, hc, hi3, hR3⟩ =>
          subst he
          have hj := r4join_no i3 o c p 6 hc _ (.slice va (F.flat 0).length vc) (.slice y yn yk) w3 hR3
          have HRE : Hid (r = .error (c, p)) := by
            rcases HRS.out with ⟨e, h, h2⟩ | ⟨a, i, h, _⟩
            · have h3 := HR3.out.symm.trans h; cases h3; exact h2
            · have h3 := HR3.out.symm.trans h; cases h3
          have HR4 := Lib.hid hR3
          clear hR3
          go_wp2_with fail
          refine hj.mono ?_
          rintro r4 w4 ⟨rfl, rfl⟩
          clear hj
          go_wp2_with fail
          go_roundw
          case rel => exact ⟨HA3.out, Or.inr ⟨c, p, none, 0, 0, i3, HRE.out, hc, hi3, HR4.out, rfl⟩⟩
          case measure => rw [HM.out, mR_err HR4.out.cells.2.2.2.1 hc]; omega
        | .ok (l, j), ⟨G, v, hl, he, hO4, hR4⟩ =>
          subst hl he
          obtain ⟨g1, g2, g3', g4⟩ := (P_ok EV.out.ok g3).bin (by omega) HR3.out
          obtain ⟨ya, yc, rfl, -⟩ := hO4.form
          have hj := r4join_ok j o 0 _ 6 F G (.slice va (F.flat 0).length vc) (.slice ya (G.flat 0).length yc) w3 hR4 HO3.out.isE hO4.isE HG.out.one g1.one (by omega) (by omega)
          have HRE : Hid (P L g3 (.loop 4 (both 6 false F G)) j o = some r) := by
            rcases HRS.out with ⟨e, h, h2⟩ | ⟨a, i, h, h2⟩
            · have h3 := HR3.out.symm.trans h; cases h3
            · have h3 := HR3.out.symm.trans h; cases h3
              rcases h2 with ⟨h2, _⟩ | ⟨_, h2⟩
              · omega
              · exact h2
          have HR5 := Lib.hid hR4
          have HGG := Lib.hid g1
          clear hR4 hO4 g1
          go_wp2_with fail
          refine hj.mono ?_
          rintro r4 w4 ⟨v4, rfl, ho, hb⟩
          have HR6 := Lib.hid (HR5.out.below hb)
          have HA6 := Lib.hid (HA3.out.then hb)
          have HO6 := Lib.hid (ho.mono hrw3)
          have hv := both_size 6 false F G
          have HV := Lib.hid hv
          clear hj ho hb hv
          go_wp2_with fail
          go_roundw
          case rel => exact ⟨HA6.out, Or.inl ⟨both 6 false F G, j, g3, by omega, HO6.out, both_good (by omega) HG.out HGG.out, by rw [HV.out]; omega, g3', HR6.out, HRE.out⟩⟩
          case measure => rw [HM.out, mR_ok HR6.out.cells.2.1 HR6.out.cells.2.2.2.1]; omega
    · have ht := r4take_no EV i hi o c p ⟨#[97, 110, 100]⟩ (Or.inr hc) wr (HB.out.next hA) hR
      have HE : Hid (∀ w2, Below wr.heap.size wr w2 → RPost (Rd rb (.slice a L.length cc)) rb o w r (.returned (.slice x n k)) w2) := fun w2 hb => by rw [hr]; exact rpost_err (hA.then hb) hc hi (hR.below hb)
      clear hA hR hr hc hi
      go_wp2_with fail
      refine ht.mono ?_
      rintro r2 w2 ⟨rfl, hb⟩
      have HB2 := Lib.hid hb
      clear ht hb
      go_wp2_with fail
      go_ret
      exact HE.out w2 HB2.out
end
end Go.Proofs.YtjnpkdpljmkpiaaGreatDoor
namespace Go.Proofs.YtjnpkdpljmkpiaaGreatDoor
open Go.RowKit Go.Shelf Tx Px
section
variable {L : List Tok} {a : Option Addr} {cc rb : Nat} {w0 : World}
set_option maxRecDepth 100000 in
set_option maxHeartbeats 4000000 in
theorem r4Arrow_any (EV : Hid (EnvOk w0 rb a cc L)) (f : Nat) (IH : Hid (∀ g, g < f → LvOk w0 rb a cc L g)) (I o : Nat) (r : Res) (w : World) (hI : I ≤ L.length) (hP : P L f (.bin 0) I o = some r) (hB : Al rb w0 w) (hR : Rd rb (.slice a L.length cc) w I o 0 0) :
    Calls Tryz.prog 104 #[.pointer (some ⟨rb, 0, none⟩)] w (RPost (Rd rb (.slice a L.length cc)) rb o w r) := by
  have HB := Lib.hid hB
  obtain ⟨g, rfl, hcs⟩ := bin_cases (by omega) hP
  have hL := EV.out.len
  have hlt := hR.lt
  obtain ⟨nb, hnb⟩ : ∃ nb, nb = w.heap.size := ⟨_, rfl⟩
  have HNB := Lib.hid hnb
  rw [← hnb] at hlt
  have h1 : ∀ r1, P L g (.bin 1) I o = some r1 → _ := fun r1 h => IH.out g (by omega) 1 I o r1 w (by omega) hI h hB hR
  have H1 : Hid (∀ r1, P L g (.bin 1) I o = some r1 → _) := h1
  have HC := Lib.hid hcs
  clear hP hcs h1 hB hR hnb
  obtain ⟨r1, hr1⟩ : ∃ r1, P L g (.bin 1) I o = some r1 := by
    rcases HC.out with ⟨e, h, _⟩ | ⟨a, i, h, _⟩
    · exact ⟨_, h⟩
    · exact ⟨_, h⟩
  have HR1 := Lib.hid hr1
  clear hr1
  go_enter Tryz.func104, Tryz.ntmps104
  go_wp2_with fail
  refine (H1.out r1 HR1.out).mono ?_
  rintro e w1 ⟨hA, hpost⟩
  have HLP : Hid (∃ av, e = .returned av ∧ (∃ x n k, av = .slice x n k) ∧ LpR (Rd rb (.slice a L.length cc)) L rb nb o w 0 (g + 1) r av w1) := by
    rcases HC.out with ⟨⟨c, p⟩, h, h2⟩ | ⟨F, i, h, h2⟩
    · have h3 := HR1.out.symm.trans h
      cases h3
      obtain ⟨x, n, k, i, h4, h5, h6, h7⟩ := hpost
      exact ⟨_, h4, ⟨_, _, _, rfl⟩, hA, Or.inr ⟨c, p, x, n, k, i, h2, h5, h6, h7, rfl⟩⟩
    · have h3 := HR1.out.symm.trans h
      cases h3
      obtain ⟨F', v, h4, h5, h6, h7⟩ := hpost
      cases h4
      obtain ⟨g1, g2, g3, g4⟩ := (P_ok EV.out.ok g).bin hI h
      obtain ⟨va, vc, hv, -⟩ := h6.form
      exact ⟨v, h5, ⟨_, _, _, hv⟩, hA, Or.inl ⟨F, i, g, by omega, by rw [HNB.out]; exact h6, g1, by omega, g3, h7, h2⟩⟩
  obtain ⟨av, rfl, ⟨ax, an, ak, rfl⟩, hlp⟩ := HLP.out
  have HLP2 := Lib.hid hlp
  clear HLP hlp hpost hA H1 HR1 HC
  obtain ⟨hA, ⟨F, i, g2, hg2, hO, hG, hF, hi, hR, hP⟩ | ⟨c, p, x, n, k, i, hr, hc, hi, hR, hax⟩⟩ := HLP2.out
  · have hBr : Al rb w0 w1 := HB.out.next hA
    obtain ⟨va, vc, hva, -⟩ := hO.form
    cases hva
    rcases loop_cases hP with ⟨hn, rfl⟩ | ⟨g3, s, op, sw, rfl, hs, hop, hrest⟩
    · have HE : Hid (∀ w2, Below w1.heap.size w1 w2 → RPost (Rd rb (.slice a L.length cc)) rb o w (.ok ([F], i)) (.returned (.slice ax (F.flat 0).length ak)) w2) := fun w2 hb => rpost_ok (hA.then hb) (by rw [← HNB.out]; exact hO.below hb) (hR.below hb)
      have HR0 := Lib.hid hR
      have HB0 : Hid (Al rb w0 w1) := hBr
      have HBL0 : Hid (Below w1.heap.size w1 w1) := Below.refl _ _
      have hno0 : Hid (isT L i ⟨#[45, 62]⟩ = false ∨ (0 : Int) ≠ 0) := Or.inl (isT_none hn (by decide))
      clear hP hn hBr hA hO hG hF hR
      have hc0 := r4take_no EV i (by omega) o 0 0 ⟨#[45, 62]⟩ hno0.out w1 HB0.out HR0.out
      go_wp2_with fail
      refine hc0.mono ?_
      rintro r2 w2 ⟨rfl, hb⟩
      have HR1 := Lib.hid (HR0.out.below hb)
      have HB1 := Lib.hid (HB0.out.then hb)
      have HBL1 := Lib.hid (below_next HBL0.out hb)
      clear hc0 hb HR0 HB0 HBL0
      go_wp2_with fail
      go_ret
      exact HE.out w2 HBL1.out
    · have hil : i < L.length := hereT_lt hs
      have hso : (s = ⟨#[45, 62]⟩ ∧ op = 19 ∧ sw = false) := by
        unfold Px.opAt at hop
        simp only at hop
        repeat' (split at hop)
        all_goals first | (cases hop; done) | (rename_i e; cases hop; rw [e]; simp [bs])
      have HO := Lib.hid hO
      have HG := Lib.hid hG
      have HA := Lib.hid hA
      have HR0 := Lib.hid hR
      have HBR := Lib.hid hBr
      have HBL0 : Hid (Below w1.heap.size w1 w1) := Below.refl _ _
      have HRS := Lib.hid hrest
      have hrw : nb ≤ w1.heap.size := by rw [HNB.out]; exact hA.size
      clear hP hop hBr hA hO hG hR hrest HLP2
      rcases hso with ⟨rfl, rfl, rfl⟩
      · have HS := Lib.hid hs
        clear hs
        have hc := r4take_yes EV i (by omega) o 0 ⟨#[45, 62]⟩ (by rw [isT_some HS.out]; simp) w1 (HBR.out.then HBL0.out) (HR0.out.below HBL0.out)
        go_wp2_with fail
        refine hc.mono ?_
        rintro r2 w2 ⟨rfl, hR9, hA9⟩
        have hA2 : Al rb w1 w2 := (Al.of HBL0.out).next hA9
        obtain ⟨r3, hr3⟩ : ∃ r3, P L g3 (.bin 0) (i + 1) o = some r3 := by
          rcases HRS.out with ⟨e, h, _⟩ | ⟨a, i, h, _⟩
          · exact ⟨_, h⟩
          · exact ⟨_, h⟩
        have HR3 := Lib.hid hr3
        have hcall := IH.out g3 (by omega) 0 (i + 1) o r3 w2 (by omega) (by omega) hr3 (HBR.out.next hA2) (by simpa using hR9)
        have HA2 : Hid (Al rb w w2) := HA.out.next hA2
        have HO2 : Hid (OwnE nb w2 (.slice ax (F.flat 0).length ak) (F.flat 0)) := hA2.ownE HO.out hlt
        have hrw2 : nb ≤ w2.heap.size := by have := hA2.size; omega
        clear hc hR9 hA9 hA2 hr3 HA HO HBR hrw HBL0 HR0
        go_wp2_with fail
        refine hcall.mono ?_
        rintro e w3 ⟨hA3, hpost⟩
        have HA3 : Hid (Al rb w w3) := HA2.out.next hA3
        have HO3 := Lib.hid (hA3.ownE HO2.out hlt)
        have hrw3 : nb ≤ w3.heap.size := by have := hA3.size; omega
        clear hcall hA3
        match r3, hpost with
        | .error (c, p), ⟨y, yn, yk, i3, he, hc, hi3, hR3⟩ =>
          subst he
          have hj := r4join_no i3 o c p 19 hc _ (.slice ax (F.flat 0).length ak) (.slice y yn yk) w3 hR3
          have HRE : Hid (r = .error (c, p)) := by
            rcases HRS.out with ⟨e, h, h2⟩ | ⟨a, i, h, _⟩
            · have h3 := HR3.out.symm.trans h; cases h3; exact h2
            · have h3 := HR3.out.symm.trans h; cases h3
          have HR4 := Lib.hid hR3
          clear hR3
          go_wp2_with fail
          refine hj.mono ?_
          rintro r4 w4 ⟨rfl, rfl⟩
          clear hj
          go_wp2_with fail
          go_ret
          rw [HRE.out]; exact rpost_err HA3.out hc hi3 HR4.out
        | .ok (l, j), ⟨G, v, hl, he, hO4, hR4⟩ =>
          subst hl he
          obtain ⟨g1, g2, g3', g4⟩ := (P_ok EV.out.ok g3).bin (by omega) HR3.out
          obtain ⟨ya, yc, rfl, -⟩ := hO4.form
          have hj := r4join_ok j o 0 _ 19 F G (.slice ax (F.flat 0).length ak) (.slice ya (G.flat 0).length yc) w3 hR4 HO3.out.isE hO4.isE HG.out.one g1.one (by omega) (by omega)
          have HRE : Hid (r = .ok ([both 19 false F G], j)) := by
            rcases HRS.out with ⟨e, h, h2⟩ | ⟨a, i, h, h2⟩
            · have h3 := HR3.out.symm.trans h; cases h3
            · have h3 := HR3.out.symm.trans h; cases h3
              rcases h2 with ⟨_, h2⟩ | ⟨h2, _⟩
              · exact h2
              · exact absurd (by decide) h2
          have HR5 := Lib.hid hR4
          clear hR4 hO4 g1
          go_wp2_with fail
          refine hj.mono ?_
          rintro r4 w4 ⟨v4, rfl, ho, hb⟩
          have HR6 := Lib.hid (HR5.out.below hb)
          have HA6 := Lib.hid (HA3.out.then hb)
          have HO6 := Lib.hid (ho.mono hrw3)
          clear hj ho hb
          go_wp2_with fail
          go_ret
          rw [HRE.out]; exact rpost_ok HA6.out (by rw [← HNB.out]; exact HO6.out) HR6.out
  · cases hax
    have HE : Hid (∀ w2, Below w1.heap.size w1 w2 → RPost (Rd rb (.slice a L.length cc)) rb o w r (.returned (.slice ax an ak)) w2) := fun w2 hb => by rw [hr]; exact rpost_err (hA.then hb) hc hi (hR.below hb)
    have HR0 := Lib.hid hR
    have HB0 : Hid (Al rb w0 w1) := HB.out.next hA
    have HBL0 : Hid (Below w1.heap.size w1 w1) := Below.refl _ _
    have hno0 : Hid (isT L i ⟨#[45, 62]⟩ = false ∨ c ≠ 0) := Or.inr hc
    clear hA hR hr hc
    have hc0 := r4take_no EV i (by omega) o c p ⟨#[45, 62]⟩ hno0.out w1 HB0.out HR0.out
    go_wp2_with fail
    refine hc0.mono ?_
    rintro r2 w2 ⟨rfl, hb⟩
    have HR1 := Lib.hid (HR0.out.below hb)
    have HB1 := Lib.hid (HB0.out.then hb)
    have HBL1 := Lib.hid (below_next HBL0.out hb)
    clear hc0 hb HR0 HB0 HBL0
    go_wp2_with fail
    go_ret
    exact HE.out w2 HBL1.out
set_option maxRecDepth 100000 in
set_option maxHeartbeats 4000000 in
theorem r4imp_any (EV : Hid (EnvOk w0 rb a cc L)) (f : Nat) (IH : Hid (∀ g, g < f → LvOk w0 rb a cc L g)) (I o : Nat) (r : Res) (w : World) (hI : I ≤ L.length) (hP : P L f (.bin 1) I o = some r) (hB : Al rb w0 w) (hR : Rd rb (.slice a L.length cc) w I o 0 0) :
    Calls Tryz.prog 120 #[.pointer (some ⟨rb, 0, none⟩)] w (RPost (Rd rb (.slice a L.length cc)) rb o w r) := by
  have HB := Lib.hid hB
  obtain ⟨g, rfl, hcs⟩ := bin_cases (by omega) hP
  have hL := EV.out.len
  have hlt := hR.lt
  obtain ⟨nb, hnb⟩ : ∃ nb, nb = w.heap.size := ⟨_, rfl⟩
  have HNB := Lib.hid hnb
  rw [← hnb] at hlt
  have h1 : ∀ r1, P L g (.bin 2) I o = some r1 → _ := fun r1 h => IH.out g (by omega) 2 I o r1 w (by omega) hI h hB hR
  have H1 : Hid (∀ r1, P L g (.bin 2) I o = some r1 → _) := h1
  have HC := Lib.hid hcs
  clear hP hcs h1 hB hR hnb
  obtain ⟨r1, hr1⟩ : ∃ r1, P L g (.bin 2) I o = some r1 := by
    rcases HC.out with ⟨e, h, _⟩ | ⟨a, i, h, _⟩
    · exact ⟨_, h⟩
    · exact ⟨_, h⟩
  have HR1 := Lib.hid hr1
  clear hr1
  go_enter Tryz.func120, Tryz.ntmps120
  go_wp2_with fail
  refine (H1.out r1 HR1.out).mono ?_
  rintro e w1 ⟨hA, hpost⟩
  have HLP : Hid (∃ av, e = .returned av ∧ (∃ x n k, av = .slice x n k) ∧ LpR (Rd rb (.slice a L.length cc)) L rb nb o w 1 (g + 1) r av w1) := by
    rcases HC.out with ⟨⟨c, p⟩, h, h2⟩ | ⟨F, i, h, h2⟩
    · have h3 := HR1.out.symm.trans h
      cases h3
      obtain ⟨x, n, k, i, h4, h5, h6, h7⟩ := hpost
      exact ⟨_, h4, ⟨_, _, _, rfl⟩, hA, Or.inr ⟨c, p, x, n, k, i, h2, h5, h6, h7, rfl⟩⟩
    · have h3 := HR1.out.symm.trans h
      cases h3
      obtain ⟨F', v, h4, h5, h6, h7⟩ := hpost
      cases h4
      obtain ⟨g1, g2, g3, g4⟩ := (P_ok EV.out.ok g).bin hI h
      obtain ⟨va, vc, hv, -⟩ := h6.form
      exact ⟨v, h5, ⟨_, _, _, hv⟩, hA, Or.inl ⟨F, i, g, by omega, by rw [HNB.out]; exact h6, g1, by omega, g3, h7, h2⟩⟩
  obtain ⟨av, rfl, ⟨ax, an, ak, rfl⟩, hlp⟩ := HLP.out
  have HLP2 := Lib.hid hlp
  clear HLP hlp hpost hA H1 HR1 HC
  obtain ⟨hA, ⟨F, i, g2, hg2, hO, hG, hF, hi, hR, hP⟩ | ⟨c, p, x, n, k, i, hr, hc, hi, hR, hax⟩⟩ := HLP2.out
  · have hBr : Al rb w0 w1 := HB.out.next hA
    obtain ⟨va, vc, hva, -⟩ := hO.form
    cases hva
    rcases loop_cases hP with ⟨hn, rfl⟩ | ⟨g3, s, op, sw, rfl, hs, hop, hrest⟩
    · have HE : Hid (∀ w2, Below w1.heap.size w1 w2 → RPost (Rd rb (.slice a L.length cc)) rb o w (.ok ([F], i)) (.returned (.slice ax (F.flat 0).length ak)) w2) := fun w2 hb => rpost_ok (hA.then hb) (by rw [← HNB.out]; exact hO.below hb) (hR.below hb)
      have HR0 := Lib.hid hR
      have HB0 : Hid (Al rb w0 w1) := hBr
      have HBL0 : Hid (Below w1.heap.size w1 w1) := Below.refl _ _
      have hno0 : Hid (isT L i ⟨#[61, 62]⟩ = false ∨ (0 : Int) ≠ 0) := Or.inl (isT_none hn (by decide))
      clear hP hn hBr hA hO hG hF hR
      have hc0 := r4take_no EV i (by omega) o 0 0 ⟨#[61, 62]⟩ hno0.out w1 HB0.out HR0.out
      go_wp2_with fail
      refine hc0.mono ?_
      rintro r2 w2 ⟨rfl, hb⟩
      have HR1 := Lib.hid (HR0.out.below hb)
      have HB1 := Lib.hid (HB0.out.then hb)
      have HBL1 := Lib.hid (below_next HBL0.out hb)
      clear hc0 hb HR0 HB0 HBL0
      go_wp2_with fail
      go_ret
      exact HE.out w2 HBL1.out
    · have hil : i < L.length := hereT_lt hs
      have hso : (s = ⟨#[61, 62]⟩ ∧ op = 9 ∧ sw = false) := by
        unfold Px.opAt at hop
        simp only at hop
        repeat' (split at hop)
        all_goals first | (cases hop; done) | (rename_i e; cases hop; rw [e]; simp [bs])
      have HO := Lib.hid hO
      have HG := Lib.hid hG
      have HA := Lib.hid hA
      have HR0 := Lib.hid hR
      have HBR := Lib.hid hBr
      have HBL0 : Hid (Below w1.heap.size w1 w1) := Below.refl _ _
      have HRS := Lib.hid hrest
      have hrw : nb ≤ w1.heap.size := by rw [HNB.out]; exact hA.size
      clear hP hop hBr hA hO hG hR hrest HLP2
      rcases hso with ⟨rfl, rfl, rfl⟩
      · have HS := Lib.hid hs
        clear hs
        have hc := r4take_yes EV i (by omega) o 0 ⟨#[61, 62]⟩ (by rw [isT_some HS.out]; simp) w1 (HBR.out.then HBL0.out) (HR0.out.below HBL0.out)
        go_wp2_with fail
        refine hc.mono ?_
        rintro r2 w2 ⟨rfl, hR9, hA9⟩
        have hA2 : Al rb w1 w2 := (Al.of HBL0.out).next hA9
        obtain ⟨r3, hr3⟩ : ∃ r3, P L g3 (.bin 1) (i + 1) o = some r3 := by
          rcases HRS.out with ⟨e, h, _⟩ | ⟨a, i, h, _⟩
          · exact ⟨_, h⟩
          · exact ⟨_, h⟩
        have HR3 := Lib.hid hr3
        have hcall := IH.out g3 (by omega) 1 (i + 1) o r3 w2 (by omega) (by omega) hr3 (HBR.out.next hA2) (by simpa using hR9)
        have HA2 : Hid (Al rb w w2) := HA.out.next hA2
        have HO2 : Hid (OwnE nb w2 (.slice ax (F.flat 0).length ak) (F.flat 0)) := hA2.ownE HO.out hlt
        have hrw2 : nb ≤ w2.heap.size := by have := hA2.size; omega
        clear hc hR9 hA9 hA2 hr3 HA HO HBR hrw HBL0 HR0
        go_wp2_with fail
        refine hcall.mono ?_
        rintro e w3 ⟨hA3, hpost⟩
        have HA3 : Hid (Al rb w w3) := HA2.out.next hA3
        have HO3 := Lib.hid (hA3.ownE HO2.out hlt)
        have hrw3 : nb ≤ w3.heap.size := by have := hA3.size; omega
        clear hcall hA3
        match r3, hpost with
        | .error (c, p), ⟨y, yn, yk, i3, he, hc, hi3, hR3⟩ =>
          subst he
          have hj := r4join_no i3 o c p 9 hc _ (.slice ax (F.flat 0).length ak) (.slice y yn yk) w3 hR3
          have HRE : Hid (r = .error (c, p)) := by
            rcases HRS.out with ⟨e, h, h2⟩ | ⟨a, i, h, _⟩
            · have h3 := HR3.out.symm.trans h; cases h3; exact h2
            · have h3 := HR3.out.symm.trans h; cases h3
          have HR4 := Lib.hid hR3
          clear hR3
          go_wp2_with fail
          refine hj.mono ?_
          rintro r4 w4 ⟨rfl, rfl⟩
          clear hj
          go_wp2_with fail
          go_ret
          rw [HRE.out]; exact rpost_err HA3.out hc hi3 HR4.out
        | .ok (l, j), ⟨G, v, hl, he, hO4, hR4⟩ =>
          subst hl he
          obtain ⟨g1, g2, g3', g4⟩ := (P_ok EV.out.ok g3).bin (by omega) HR3.out
          obtain ⟨ya, yc, rfl, -⟩ := hO4.form
          have hj := r4join_ok j o 0 _ 9 F G (.slice ax (F.flat 0).length ak) (.slice ya (G.flat 0).length yc) w3 hR4 HO3.out.isE hO4.isE HG.out.one g1.one (by omega) (by omega)
          have HRE : Hid (r = .ok ([both 9 false F G], j)) := by
            rcases HRS.out with ⟨e, h, h2⟩ | ⟨a, i, h, h2⟩
            · have h3 := HR3.out.symm.trans h; cases h3
            · have h3 := HR3.out.symm.trans h; cases h3
              rcases h2 with ⟨_, h2⟩ | ⟨h2, _⟩
              · exact h2
              · exact absurd (by decide) h2
          have HR5 := Lib.hid hR4
          clear hR4 hO4 g1
          go_wp2_with fail
          refine hj.mono ?_
          rintro r4 w4 ⟨v4, rfl, ho, hb⟩
          have HR6 := Lib.hid (HR5.out.below hb)
          have HA6 := Lib.hid (HA3.out.then hb)
          have HO6 := Lib.hid (ho.mono hrw3)
          clear hj ho hb
          go_wp2_with fail
          go_ret
          rw [HRE.out]; exact rpost_ok HA6.out (by rw [← HNB.out]; exact HO6.out) HR6.out
  · cases hax
    have HE : Hid (∀ w2, Below w1.heap.size w1 w2 → RPost (Rd rb (.slice a L.length cc)) rb o w r (.returned (.slice ax an ak)) w2) := fun w2 hb => by rw [hr]; exact rpost_err (hA.then hb) hc hi (hR.below hb)
    have HR0 := Lib.hid hR
    have HB0 : Hid (Al rb w0 w1) := HB.out.next hA
    have HBL0 : Hid (Below w1.heap.size w1 w1) := Below.refl _ _
    have hno0 : Hid (isT L i ⟨#[61, 62]⟩ = false ∨ c ≠ 0) := Or.inr hc
    clear hA hR hr hc
    have hc0 := r4take_no EV i (by omega) o c p ⟨#[61, 62]⟩ hno0.out w1 HB0.out HR0.out
    go_wp2_with fail
    refine hc0.mono ?_
    rintro r2 w2 ⟨rfl, hb⟩
    have HR1 := Lib.hid (HR0.out.below hb)
    have HB1 := Lib.hid (HB0.out.then hb)
    have HBL1 := Lib.hid (below_next HBL0.out hb)
    clear hc0 hb HR0 HB0 HBL0
    go_wp2_with fail
    go_ret
    exact HE.out w2 HBL1.out
end
end Go.Proofs.YtjnpkdpljmkpiaaGreatDoor
namespace Go.Proofs.YtjnpkdpljmkpiaaGreatDoor
open Go.RowKit Go.Shelf Tx Px
section
variable {L : List Tok} {a : Option Addr} {cc rb : Nat} {w0 : World}
set_option maxRecDepth 100000 in
set_option maxHeartbeats 4000000 in
theorem r4cmp_any (EV : Hid (EnvOk w0 rb a cc L)) (f : Nat) (IH : Hid (∀ g, g < f → LvOk w0 rb a cc L g)) (I o : Nat) (r : Res) (w : World) (hI : I ≤ L.length) (hP : P L f (.bin 5) I o = some r) (hB : Al rb w0 w) (hR : Rd rb (.slice a L.length cc) w I o 0 0) :
    Calls Tryz.prog 154 #[.pointer (some ⟨rb, 0, none⟩)] w (RPost (Rd rb (.slice a L.length cc)) rb o w r) := by
  have HB := Lib.hid hB
  obtain ⟨g, rfl, hcs⟩ := bin_cases (by omega) hP
  have hL := EV.out.len
  have hlt := hR.lt
  obtain ⟨nb, hnb⟩ : ∃ nb, nb = w.heap.size := ⟨_, rfl⟩
  have HNB := Lib.hid hnb
  rw [← hnb] at hlt
  have h1 : ∀ r1, P L g (.bin 6) I o = some r1 → _ := fun r1 h => IH.out g (by omega) 6 I o r1 w (by omega) hI h hB hR
  have H1 : Hid (∀ r1, P L g (.bin 6) I o = some r1 → _) := h1
  have HC := Lib.hid hcs
  clear hP hcs h1 hB hR hnb
  obtain ⟨r1, hr1⟩ : ∃ r1, P L g (.bin 6) I o = some r1 := by
    rcases HC.out with ⟨e, h, _⟩ | ⟨a, i, h, _⟩
    · exact ⟨_, h⟩
    · exact ⟨_, h⟩
  have HR1 := Lib.hid hr1
  clear hr1
  go_enter Tryz.func154, Tryz.ntmps154
  go_wp2_with fail
  refine (H1.out r1 HR1.out).mono ?_
  rintro e w1 ⟨hA, hpost⟩
  have HLP : Hid (∃ av, e = .returned av ∧ (∃ x n k, av = .slice x n k) ∧ LpR (Rd rb (.slice a L.length cc)) L rb nb o w 5 (g + 1) r av w1) := by
    rcases HC.out with ⟨⟨c, p⟩, h, h2⟩ | ⟨F, i, h, h2⟩
    · have h3 := HR1.out.symm.trans h
      cases h3
      obtain ⟨x, n, k, i, h4, h5, h6, h7⟩ := hpost
      exact ⟨_, h4, ⟨_, _, _, rfl⟩, hA, Or.inr ⟨c, p, x, n, k, i, h2, h5, h6, h7, rfl⟩⟩
    · have h3 := HR1.out.symm.trans h
      cases h3
      obtain ⟨F', v, h4, h5, h6, h7⟩ := hpost
      cases h4
      obtain ⟨g1, g2, g3, g4⟩ := (P_ok EV.out.ok g).bin hI h
      obtain ⟨va, vc, hv, -⟩ := h6.form
      exact ⟨v, h5, ⟨_, _, _, hv⟩, hA, Or.inl ⟨F, i, g, by omega, by rw [HNB.out]; exact h6, g1, by omega, g3, h7, h2⟩⟩
  obtain ⟨av, rfl, ⟨ax, an, ak, rfl⟩, hlp⟩ := HLP.out
  have HLP2 := Lib.hid hlp
  clear HLP hlp hpost hA H1 HR1 HC
  obtain ⟨hA, ⟨F, i, g2, hg2, hO, hG, hF, hi, hR, hP⟩ | ⟨c, p, x, n, k, i, hr, hc, hi, hR, hax⟩⟩ := HLP2.out
  · have hBr : Al rb w0 w1 := HB.out.next hA
    obtain ⟨va, vc, hva, -⟩ := hO.form
    cases hva
    rcases loop_cases hP with ⟨hn, rfl⟩ | ⟨g3, s, op, sw, rfl, hs, hop, hrest⟩
    · have HE : Hid (∀ w2, Below w1.heap.size w1 w2 → RPost (Rd rb (.slice a L.length cc)) rb o w (.ok ([F], i)) (.returned (.slice ax (F.flat 0).length ak)) w2) := fun w2 hb => rpost_ok (hA.then hb) (by rw [← HNB.out]; exact hO.below hb) (hR.below hb)
      have HR0 := Lib.hid hR
      have HB0 : Hid (Al rb w0 w1) := hBr
      have HBL0 : Hid (Below w1.heap.size w1 w1) := Below.refl _ _
      have hno0 : Hid (isT L i ⟨#[61]⟩ = false ∨ (0 : Int) ≠ 0) := Or.inl (isT_none hn (by decide))
      have hno1 : Hid (isT L i ⟨#[60, 62]⟩ = false ∨ (0 : Int) ≠ 0) := Or.inl (isT_none hn (by decide))
      have hno2 : Hid (isT L i ⟨#[60]⟩ = false ∨ (0 : Int) ≠ 0) := Or.inl (isT_none hn (by decide))
      have hno3 : Hid (isT L i ⟨#[60, 61]⟩ = false ∨ (0 : Int) ≠ 0) := Or.inl (isT_none hn (by decide))
      have hno4 : Hid (isT L i ⟨#[62]⟩ = false ∨ (0 : Int) ≠ 0) := Or.inl (isT_none hn (by decide))
      have hno5 : Hid (isT L i ⟨#[62, 61]⟩ = false ∨ (0 : Int) ≠ 0) := Or.inl (isT_none hn (by decide))
      clear hP hn hBr hA hO hG hF hR
      have hc0 := r4take_no EV i (by omega) o 0 0 ⟨#[61]⟩ hno0.out w1 HB0.out HR0.out
      go_wp2_with fail
      refine hc0.mono ?_
      rintro r2 w2 ⟨rfl, hb⟩
      have HR1 := Lib.hid (HR0.out.below hb)
      have HB1 := Lib.hid (HB0.out.then hb)
      have HBL1 := Lib.hid (below_next HBL0.out hb)
      clear hc0 hb HR0 HB0 HBL0
      have hc1 := r4take_no EV i (by omega) o 0 0 ⟨#[60, 62]⟩ hno1.out w2 HB1.out HR1.out
      go_wp2_with fail
      refine hc1.mono ?_
      rintro r2 w3 ⟨rfl, hb⟩
      have HR2 := Lib.hid (HR1.out.below hb)
      have HB2 := Lib.hid (HB1.out.then hb)
      have HBL2 := Lib.hid (below_next HBL1.out hb)
      clear hc1 hb HR1 HB1 HBL1
      have hc2 := r4take_no EV i (by omega) o 0 0 ⟨#[60]⟩ hno2.out w3 HB2.out HR2.out
      go_wp2_with fail
      refine hc2.mono ?_
      rintro r2 w4 ⟨rfl, hb⟩
      have HR3 := Lib.hid (HR2.out.below hb)
      have HB3 := Lib.hid (HB2.out.then hb)
      have HBL3 := Lib.hid (below_next HBL2.out hb)
      clear hc2 hb HR2 HB2 HBL2
      have hc3 := r4take_no EV i (by omega) o 0 0 ⟨#[60, 61]⟩ hno3.out w4 HB3.out HR3.out
      go_wp2_with fail
      refine hc3.mono ?_
      rintro r2 w5 ⟨rfl, hb⟩
      have HR4 := Lib.hid (HR3.out.below hb)
      have HB4 := Lib.hid (HB3.out.then hb)
      have HBL4 := Lib.hid (below_next HBL3.out hb)
      clear hc3 hb HR3 HB3 HBL3
      have hc4 := r4take_no EV i (by omega) o 0 0 ⟨#[62]⟩ hno4.out w5 HB4.out HR4.out
      go_wp2_with fail
      refine hc4.mono ?_
      rintro r2 w6 ⟨rfl, hb⟩
      have HR5 := Lib.hid (HR4.out.below hb)
      have HB5 := Lib.hid (HB4.out.then hb)
      have HBL5 := Lib.hid (below_next HBL4.out hb)
      clear hc4 hb HR4 HB4 HBL4
      have hc5 := r4take_no EV i (by omega) o 0 0 ⟨#[62, 61]⟩ hno5.out w6 HB5.out HR5.out
      go_wp2_with fail
      refine hc5.mono ?_
      rintro r2 w7 ⟨rfl, hb⟩
      have HR6 := Lib.hid (HR5.out.below hb)
      have HB6 := Lib.hid (HB5.out.then hb)
      have HBL6 := Lib.hid (below_next HBL5.out hb)
      clear hc5 hb HR5 HB5 HBL5
      go_wp2_with fail
      go_ret
      exact HE.out w7 HBL6.out
    · have hil : i < L.length := hereT_lt hs
      have hso : (s = ⟨#[61]⟩ ∧ op = 10 ∧ sw = false) ∨ (s = ⟨#[60, 62]⟩ ∧ op = 11 ∧ sw = false) ∨ (s = ⟨#[60]⟩ ∧ op = 12 ∧ sw = false) ∨ (s = ⟨#[60, 61]⟩ ∧ op = 13 ∧ sw = false) ∨ (s = ⟨#[62]⟩ ∧ op = 12 ∧ sw = true) ∨ (s = ⟨#[62, 61]⟩ ∧ op = 13 ∧ sw = true) := by
        unfold Px.opAt at hop
        simp only at hop
        repeat' (split at hop)
        all_goals first | (cases hop; done) | (rename_i e; cases hop; rw [e]; simp [bs])
      have HO := Lib.hid hO
      have HG := Lib.hid hG
      have HA := Lib.hid hA
      have HR0 := Lib.hid hR
      have HBR := Lib.hid hBr
      have HBL0 : Hid (Below w1.heap.size w1 w1) := Below.refl _ _
      have HRS := Lib.hid hrest
      have hrw : nb ≤ w1.heap.size := by rw [HNB.out]; exact hA.size
      clear hP hop hBr hA hO hG hR hrest HLP2
      rcases hso with ⟨rfl, rfl, rfl⟩ | ⟨rfl, rfl, rfl⟩ | ⟨rfl, rfl, rfl⟩ | ⟨rfl, rfl, rfl⟩ | ⟨rfl, rfl, rfl⟩ | ⟨rfl, rfl, rfl⟩
      · have HS := Lib.hid hs
        clear hs
        have hc := r4take_yes EV i (by omega) o 0 ⟨#[61]⟩ (by rw [isT_some HS.out]; simp) w1 (HBR.out.then HBL0.out) (HR0.out.below HBL0.out)
        go_wp2_with fail
        refine hc.mono ?_
        rintro r2 w2 ⟨rfl, hR9, hA9⟩
        have hA2 : Al rb w1 w2 := (Al.of HBL0.out).next hA9
        obtain ⟨r3, hr3⟩ : ∃ r3, P L g3 (.bin 6) (i + 1) o = some r3 := by
          rcases HRS.out with ⟨e, h, _⟩ | ⟨a, i, h, _⟩
          · exact ⟨_, h⟩
          · exact ⟨_, h⟩
        have HR3 := Lib.hid hr3
        have hcall := IH.out g3 (by omega) 6 (i + 1) o r3 w2 (by omega) (by omega) hr3 (HBR.out.next hA2) (by simpa using hR9)
        have HA2 : Hid (Al rb w w2) := HA.out.next hA2
        have HO2 : Hid (OwnE nb w2 (.slice ax (F.flat 0).length ak) (F.flat 0)) := hA2.ownE HO.out hlt
        have hrw2 : nb ≤ w2.heap.size := by have := hA2.size; omega
        clear hc hR9 hA9 hA2 hr3 HA HO HBR hrw HBL0 HR0
        go_wp2_with fail
        refine hcall.mono ?_
        rintro e w3 ⟨hA3, hpost⟩
        have HA3 : Hid (Al rb w w3) := HA2.out.next hA3
        have HO3 := Lib.hid (hA3.ownE HO2.out hlt)
        have hrw3 : nb ≤ w3.heap.size := by have := hA3.size; omega
        clear hcall hA3
        match r3, hpost with
        | .error (c, p), ⟨y, yn, yk, i3, he, hc, hi3, hR3⟩ =>
          subst he
          have hj := r4join_no i3 o c p 10 hc _ (.slice ax (F.flat 0).length ak) (.slice y yn yk) w3 hR3
          have HRE : Hid (r = .error (c, p)) := by
            rcases HRS.out with ⟨e, h, h2⟩ | ⟨a, i, h, _⟩
            · have h3 := HR3.out.symm.trans h; cases h3; exact h2
            · have h3 := HR3.out.symm.trans h; cases h3
          have HR4 := Lib.hid hR3
          clear hR3
          go_wp2_with fail
          refine hj.mono ?_
          rintro r4 w4 ⟨rfl, rfl⟩
          clear hj
          go_wp2_with fail
          go_ret
          rw [HRE.out]; exact rpost_err HA3.out hc hi3 HR4.out
        | .ok (l, j), ⟨G, v, hl, he, hO4, hR4⟩ =>
          subst hl he
          obtain ⟨g1, g2, g3', g4⟩ := (P_ok EV.out.ok g3).bin (by omega) HR3.out
          obtain ⟨ya, yc, rfl, -⟩ := hO4.form
          have hj := r4join_ok j o 0 _ 10 F G (.slice ax (F.flat 0).length ak) (.slice ya (G.flat 0).length yc) w3 hR4 HO3.out.isE hO4.isE HG.out.one g1.one (by omega) (by omega)
          have HRE : Hid (r = .ok ([both 10 false F G], j)) := by
            rcases HRS.out with ⟨e, h, h2⟩ | ⟨a, i, h, h2⟩
            · have h3 := HR3.out.symm.trans h; cases h3
            · have h3 := HR3.out.symm.trans h; cases h3
              rcases h2 with ⟨_, h2⟩ | ⟨h2, _⟩
              · exact h2
              · exact absurd (by decide) h2
          have HR5 := Lib.hid hR4
          clear hR4 hO4 g1
          go_wp2_with fail
          refine hj.mono ?_
          rintro r4 w4 ⟨v4, rfl, ho, hb⟩
          have HR6 := Lib.hid (HR5.out.below hb)
          have HA6 := Lib.hid (HA3.out.then hb)
          have HO6 := Lib.hid (ho.mono hrw3)
          clear hj ho hb
          go_wp2_with fail
          go_ret
          rw [HRE.out]; exact rpost_ok HA6.out (by rw [← HNB.out]; exact HO6.out) HR6.out
      · have HS := Lib.hid hs
        clear hs
        have hc := r4take_no EV i (by omega) o 0 0 ⟨#[61]⟩ (Or.inl (by rw [isT_some HS.out]; decide)) w1 (HBR.out.then HBL0.out) (HR0.out.below HBL0.out)
        go_wp2_with fail
        refine hc.mono ?_
        rintro r2 v1 ⟨rfl, hb⟩
        have HBL1 := Lib.hid (below_next HBL0.out hb)
        clear hc hb HBL0
        have hc := r4take_yes EV i (by omega) o 0 ⟨#[60, 62]⟩ (by rw [isT_some HS.out]; simp) v1 (HBR.out.then HBL1.out) (HR0.out.below HBL1.out)
        go_wp2_with fail
        refine hc.mono ?_
        rintro r2 w2 ⟨rfl, hR9, hA9⟩
        have hA2 : Al rb w1 w2 := (Al.of HBL1.out).next hA9
        obtain ⟨r3, hr3⟩ : ∃ r3, P L g3 (.bin 6) (i + 1) o = some r3 := by
          rcases HRS.out with ⟨e, h, _⟩ | ⟨a, i, h, _⟩
          · exact ⟨_, h⟩
          · exact ⟨_, h⟩
        have HR3 := Lib.hid hr3
        have hcall := IH.out g3 (by omega) 6 (i + 1) o r3 w2 (by omega) (by omega) hr3 (HBR.out.next hA2) (by simpa using hR9)
        have HA2 : Hid (Al rb w w2) := HA.out.next hA2
        have HO2 : Hid (OwnE nb w2 (.slice ax (F.flat 0).length ak) (F.flat 0)) := hA2.ownE HO.out hlt
        have hrw2 : nb ≤ w2.heap.size := by have := hA2.size; omega
        clear hc hR9 hA9 hA2 hr3 HA HO HBR hrw HBL1 HR0
        go_wp2_with fail
        refine hcall.mono ?_
        rintro e w3 ⟨hA3, hpost⟩
        have HA3 : Hid (Al rb w w3) := HA2.out.next hA3
        have HO3 := Lib.hid (hA3.ownE HO2.out hlt)
        have hrw3 : nb ≤ w3.heap.size := by have := hA3.size; omega
        clear hcall hA3
        match r3, hpost with
        | .error (c, p), ⟨y, yn, yk, i3, he, hc, hi3, hR3⟩ =>
          subst he
          have hj := r4join_no i3 o c p 11 hc _ (.slice ax (F.flat 0).length ak) (.slice y yn yk) w3 hR3
          have HRE : Hid (r = .error (c, p)) := by
            rcases HRS.out with ⟨e, h, h2⟩ | ⟨a, i, h, _⟩
            · have h3 := HR3.out.symm.trans h; cases h3; exact h2
            · have h3 := HR3.out.symm.trans h; cases h3
          have HR4 := Lib.hid hR3
          clear hR3
          go_wp2_with fail
          refine hj.mono ?_
          rintro r4 w4 ⟨rfl, rfl⟩
          clear hj
          go_wp2_with fail
          go_ret
          rw [HRE.out]; exact rpost_err HA3.out hc hi3 HR4.out
        | .ok (l, j), ⟨G, v, hl, he, hO4, hR4⟩ =>
          subst hl he
          obtain ⟨g1, g2, g3', g4⟩ := (P_ok EV.out.ok g3).bin (by omega) HR3.out
          obtain ⟨ya, yc, rfl, -⟩ := hO4.form
          have hj := r4join_ok j o 0 _ 11 F G (.slice ax (F.flat 0).length ak) (.slice ya (G.flat 0).length yc) w3 hR4 HO3.out.isE hO4.isE HG.out.one g1.one (by omega) (by omega)
          have HRE : Hid (r = .ok ([both 11 false F G], j)) := by
            rcases HRS.out with ⟨e, h, h2⟩ | ⟨a, i, h, h2⟩
            · have h3 := HR3.out.symm.trans h; cases h3
            · have h3 := HR3.out.symm.trans h; cases h3
              rcases h2 with ⟨_, h2⟩ | ⟨h2, _⟩
              · exact h2
              · exact absurd (by decide) h2
          have HR5 := Lib.hid hR4
          clear hR4 hO4 g1
          go_wp2_with fail
          refine hj.mono ?_
          rintro r4 w4 ⟨v4, rfl, ho, hb⟩
          have HR6 := Lib.hid (HR5.out.below hb)
          have HA6 := Lib.hid (HA3.out.then hb)
          have HO6 := Lib.hid (ho.mono hrw3)
          clear hj ho hb
          go_wp2_with fail
          go_ret
          rw [HRE.out]; exact rpost_ok HA6.out (by rw [← HNB.out]; exact HO6.out) HR6.out
      · have HS := Lib.hid hs
        clear hs
        have hc := r4take_no EV i (by omega) o 0 0 ⟨#[61]⟩ (Or.inl (by rw [isT_some HS.out]; decide)) w1 (HBR.out.then HBL0.out) (HR0.out.below HBL0.out)
        go_wp2_with fail
        refine hc.mono ?_
        rintro r2 v1 ⟨rfl, hb⟩
        have HBL1 := Lib.hid (below_next HBL0.out hb)
        clear hc hb HBL0
        have hc := r4take_no EV i (by omega) o 0 0 ⟨#[60, 62]⟩ (Or.inl (by rw [isT_some HS.out]; decide)) v1 (HBR.out.then HBL1.out) (HR0.out.below HBL1.out)
        go_wp2_with fail
        refine hc.mono ?_
        rintro r2 v2 ⟨rfl, hb⟩
        have HBL2 := Lib.hid (below_next HBL1.out hb)
        clear hc hb HBL1
        have hc := r4take_yes EV i (by omega) o 0 ⟨#[60]⟩ (by rw [isT_some HS.out]; simp) v2 (HBR.out.then HBL2.out) (HR0.out.below HBL2.out)
        go_wp2_with fail
        refine hc.mono ?_
        rintro r2 w2 ⟨rfl, hR9, hA9⟩
        have hA2 : Al rb w1 w2 := (Al.of HBL2.out).next hA9
        obtain ⟨r3, hr3⟩ : ∃ r3, P L g3 (.bin 6) (i + 1) o = some r3 := by
          rcases HRS.out with ⟨e, h, _⟩ | ⟨a, i, h, _⟩
          · exact ⟨_, h⟩
          · exact ⟨_, h⟩
        have HR3 := Lib.hid hr3
        have hcall := IH.out g3 (by omega) 6 (i + 1) o r3 w2 (by omega) (by omega) hr3 (HBR.out.next hA2) (by simpa using hR9)
        have HA2 : Hid (Al rb w w2) := HA.out.next hA2
        have HO2 : Hid (OwnE nb w2 (.slice ax (F.flat 0).length ak) (F.flat 0)) := hA2.ownE HO.out hlt
        have hrw2 : nb ≤ w2.heap.size := by have := hA2.size; omega
        clear hc hR9 hA9 hA2 hr3 HA HO HBR hrw HBL2 HR0
        go_wp2_with fail
        refine hcall.mono ?_
        rintro e w3 ⟨hA3, hpost⟩
        have HA3 : Hid (Al rb w w3) := HA2.out.next hA3
        have HO3 := Lib.hid (hA3.ownE HO2.out hlt)
        have hrw3 : nb ≤ w3.heap.size := by have := hA3.size; omega
        clear hcall hA3
        match r3, hpost with
        | .error (c, p), ⟨y, yn, yk, i3, he, hc, hi3, hR3⟩ =>
          subst he
          have hj := r4join_no i3 o c p 12 hc _ (.slice ax (F.flat 0).length ak) (.slice y yn yk) w3 hR3
          have HRE : Hid (r = .error (c, p)) := by
            rcases HRS.out with ⟨e, h, h2⟩ | ⟨a, i, h, _⟩
            · have h3 := HR3.out.symm.trans h; cases h3; exact h2
            · have h3 := HR3.out.symm.trans h; cases h3
          have HR4 := Lib.hid hR3
          clear hR3
          go_wp2_with fail
          refine hj.mono ?_
          rintro r4 w4 ⟨rfl, rfl⟩
          clear hj
          go_wp2_with fail
          go_ret
          rw [HRE.out]; exact rpost_err HA3.out hc hi3 HR4.out
        | .ok (l, j), ⟨G, v, hl, he, hO4, hR4⟩ =>
          subst hl he
          obtain ⟨g1, g2, g3', g4⟩ := (P_ok EV.out.ok g3).bin (by omega) HR3.out
          obtain ⟨ya, yc, rfl, -⟩ := hO4.form
          have hj := r4join_ok j o 0 _ 12 F G (.slice ax (F.flat 0).length ak) (.slice ya (G.flat 0).length yc) w3 hR4 HO3.out.isE hO4.isE HG.out.one g1.one (by omega) (by omega)
          have HRE : Hid (r = .ok ([both 12 false F G], j)) := by
            rcases HRS.out with ⟨e, h, h2⟩ | ⟨a, i, h, h2⟩
            · have h3 := HR3.out.symm.trans h; cases h3
            · have h3 := HR3.out.symm.trans h; cases h3
              rcases h2 with ⟨_, h2⟩ | ⟨h2, _⟩
              · exact h2
              · exact absurd (by decide) h2
          have HR5 := Lib.hid hR4
          clear hR4 hO4 g1
          go_wp2_with fail
          refine hj.mono ?_
          rintro r4 w4 ⟨v4, rfl, ho, hb⟩
          have HR6 := Lib.hid (HR5.out.below hb)
          have HA6 := Lib.hid (HA3.out.then hb)
          have HO6 := Lib.hid (ho.mono hrw3)
          clear hj ho hb
          go_wp2_with fail
          go_ret
          rw [HRE.out]; exact rpost_ok HA6.out (by rw [← HNB.out]; exact HO6.out) HR6.out
      · have HS := Lib.hid hs
        clear hs
        have hc := r4take_no EV i (by omega) o 0 0 ⟨#[61]⟩ (Or.inl (by rw [isT_some HS.out]; decide)) w1 (HBR.out.then HBL0.out) (HR0.out.below HBL0.out)
        go_wp2_with fail
        refine hc.mono ?_
        rintro r2 v1 ⟨rfl, hb⟩
        have HBL1 := Lib.hid (below_next HBL0.out hb)
        clear hc hb HBL0
        have hc := r4take_no EV i (by omega) o 0 0 ⟨#[60, 62]⟩ (Or.inl (by rw [isT_some HS.out]; decide)) v1 (HBR.out.then HBL1.out) (HR0.out.below HBL1.out)
        go_wp2_with fail
        refine hc.mono ?_
        rintro r2 v2 ⟨rfl, hb⟩
        have HBL2 := Lib.hid (below_next HBL1.out hb)
        clear hc hb HBL1
        have hc := r4take_no EV i (by omega) o 0 0 ⟨#[60]⟩ (Or.inl (by rw [isT_some HS.out]; decide)) v2 (HBR.out.then HBL2.out) (HR0.out.below HBL2.out)
        go_wp2_with fail
        refine hc.mono ?_
        rintro r2 v3 ⟨rfl, hb⟩
        have HBL3 := Lib.hid (below_next HBL2.out hb)
        clear hc hb HBL2
        have hc := r4take_yes EV i (by omega) o 0 ⟨#[60, 61]⟩ (by rw [isT_some HS.out]; simp) v3 (HBR.out.then HBL3.out) (HR0.out.below HBL3.out)
        go_wp2_with fail
        refine hc.mono ?_
        rintro r2 w2 ⟨rfl, hR9, hA9⟩
        have hA2 : Al rb w1 w2 := (Al.of HBL3.out).next hA9
        obtain ⟨r3, hr3⟩ : ∃ r3, P L g3 (.bin 6) (i + 1) o = some r3 := by
          rcases HRS.out with ⟨e, h, _⟩ | ⟨a, i, h, _⟩
          · exact ⟨_, h⟩
          · exact ⟨_, h⟩
        have HR3 := Lib.hid hr3
        have hcall := IH.out g3 (by omega) 6 (i + 1) o r3 w2 (by omega) (by omega) hr3 (HBR.out.next hA2) (by simpa using hR9)
        have HA2 : Hid (Al rb w w2) := HA.out.next hA2
        have HO2 : Hid (OwnE nb w2 (.slice ax (F.flat 0).length ak) (F.flat 0)) := hA2.ownE HO.out hlt
        have hrw2 : nb ≤ w2.heap.size := by have := hA2.size; omega
        clear hc hR9 hA9 hA2 hr3 HA HO HBR hrw HBL3 HR0
        go_wp2_with fail
        refine hcall.mono ?_
        rintro e w3 ⟨hA3, hpost⟩
        have HA3 : Hid (Al rb w w3) := HA2.out.next hA3
        have HO3 := Lib.hid (hA3.ownE HO2.out hlt)
        have hrw3 : nb ≤ w3.heap.size := by have := hA3.size; omega
        clear hcall hA3
        match r3, hpost with
        | .error (c, p), ⟨y, yn, yk, i3, he, hc, hi3, hR3⟩ =>
          subst he
          have hj := r4join_no i3 o c p 13 hc _ (.slice ax (F.flat 0).length ak) (.slice y yn yk) w3 hR3
          have HRE : Hid (r = .error (c, p)) := by
            rcases HRS.out with ⟨e, h, h2⟩ | ⟨a, i, h, _⟩
            · have h3 := HR3.out.symm.trans h; cases h3; exact h2
            · have h3 := HR3.out.symm.trans h; cases h3
          have HR4 := Lib.hid hR3
          clear hR3
          go_wp2_with fail
          refine hj.mono ?_
          rintro r4 w4 ⟨rfl, rfl⟩
          clear hj
          go_wp2_with fail
          go_ret
          rw [HRE.out]; exact rpost_err HA3.out hc hi3 HR4.out
        | .ok (l, j), ⟨G, v, hl, he, hO4, hR4⟩ =>
          subst hl he
          obtain ⟨g1, g2, g3', g4⟩ := (P_ok EV.out.ok g3).bin (by omega) HR3.out
          obtain ⟨ya, yc, rfl, -⟩ := hO4.form
          have hj := r4join_ok j o 0 _ 13 F G (.slice ax (F.flat 0).length ak) (.slice ya (G.flat 0).length yc) w3 hR4 HO3.out.isE hO4.isE HG.out.one g1.one (by omega) (by omega)
          have HRE : Hid (r = .ok ([both 13 false F G], j)) := by
            rcases HRS.out with ⟨e, h, h2⟩ | ⟨a, i, h, h2⟩
            · have h3 := HR3.out.symm.trans h; cases h3
            · have h3 := HR3.out.symm.trans h; cases h3
              rcases h2 with ⟨_, h2⟩ | ⟨h2, _⟩
              · exact h2
              · exact absurd (by decide) h2
          have HR5 := Lib.hid hR4
          clear hR4 hO4 g1
          go_wp2_with fail
          refine hj.mono ?_
          rintro r4 w4 ⟨v4, rfl, ho, hb⟩
          have HR6 := Lib.hid (HR5.out.below hb)
          have HA6 := Lib.hid (HA3.out.then hb)
          have HO6 := Lib.hid (ho.mono hrw3)
          clear hj ho hb
          go_wp2_with fail
          go_ret
          rw [HRE.out]; exact rpost_ok HA6.out (by rw [← HNB.out]; exact HO6.out) HR6.out
      · have HS := Lib.hid hs
        clear hs
        have hc := r4take_no EV i (by omega) o 0 0 ⟨#[61]⟩ (Or.inl (by rw [isT_some HS.out]; decide)) w1 (HBR.out.then HBL0.out) (HR0.out.below HBL0.out)
        go_wp2_with fail
        refine hc.mono ?_
        rintro r2 v1 ⟨rfl, hb⟩
        have HBL1 := Lib.hid (below_next HBL0.out hb)
        clear hc hb HBL0
        have hc := r4take_no EV i (by omega) o 0 0 ⟨#[60, 62]⟩ (Or.inl (by rw [isT_some HS.out]; decide)) v1 (HBR.out.then HBL1.out) (HR0.out.below HBL1.out)
        go_wp2_with fail
        refine hc.mono ?_
        rintro r2 v2 ⟨rfl, hb⟩
        have HBL2 := Lib.hid (below_next HBL1.out hb)
        clear hc hb HBL1
        have hc := r4take_no EV i (by omega) o 0 0 ⟨#[60]⟩ (Or.inl (by rw [isT_some HS.out]; decide)) v2 (HBR.out.then HBL2.out) (HR0.out.below HBL2.out)
        go_wp2_with fail
        refine hc.mono ?_
        rintro r2 v3 ⟨rfl, hb⟩
        have HBL3 := Lib.hid (below_next HBL2.out hb)
        clear hc hb HBL2
        have hc := r4take_no EV i (by omega) o 0 0 ⟨#[60, 61]⟩ (Or.inl (by rw [isT_some HS.out]; decide)) v3 (HBR.out.then HBL3.out) (HR0.out.below HBL3.out)
        go_wp2_with fail
        refine hc.mono ?_
        rintro r2 v4 ⟨rfl, hb⟩
        have HBL4 := Lib.hid (below_next HBL3.out hb)
        clear hc hb HBL3
        have hc := r4take_yes EV i (by omega) o 0 ⟨#[62]⟩ (by rw [isT_some HS.out]; simp) v4 (HBR.out.then HBL4.out) (HR0.out.below HBL4.out)
        go_wp2_with fail
        refine hc.mono ?_
        rintro r2 w2 ⟨rfl, hR9, hA9⟩
        have hA2 : Al rb w1 w2 := (Al.of HBL4.out).next hA9
        obtain ⟨r3, hr3⟩ : ∃ r3, P L g3 (.bin 6) (i + 1) o = some r3 := by
          rcases HRS.out with ⟨e, h, _⟩ | ⟨a, i, h, _⟩
          · exact ⟨_, h⟩
          · exact ⟨_, h⟩
        have HR3 := Lib.hid hr3
        have hcall := IH.out g3 (by omega) 6 (i + 1) o r3 w2 (by omega) (by omega) hr3 (HBR.out.next hA2) (by simpa using hR9)
        have HA2 : Hid (Al rb w w2) := HA.out.next hA2
        have HO2 : Hid (OwnE nb w2 (.slice ax (F.flat 0).length ak) (F.flat 0)) := hA2.ownE HO.out hlt
        have hrw2 : nb ≤ w2.heap.size := by have := hA2.size; omega
        clear hc hR9 hA9 hA2 hr3 HA HO HBR hrw HBL4 HR0
        go_wp2_with fail
        refine hcall.mono ?_
        rintro e w3 ⟨hA3, hpost⟩
        have HA3 : Hid (Al rb w w3) := HA2.out.next hA3
        have HO3 := Lib.hid (hA3.ownE HO2.out hlt)
        have hrw3 : nb ≤ w3.heap.size := by have := hA3.size; omega
        clear hcall hA3
        match r3, hpost with
        | .error (c, p), ⟨y, yn, yk, i3, he, hc, hi3, hR3⟩ =>
          subst he
          have hj := r4join_no i3 o c p 12 hc _ (.slice y yn yk) (.slice ax (F.flat 0).length ak) w3 hR3
          have HRE : Hid (r = .error (c, p)) := by
            rcases HRS.out with ⟨e, h, h2⟩ | ⟨a, i, h, _⟩
            · have h3 := HR3.out.symm.trans h; cases h3; exact h2
            · have h3 := HR3.out.symm.trans h; cases h3
          have HR4 := Lib.hid hR3
          clear hR3
          go_wp2_with fail
          refine hj.mono ?_
          rintro r4 w4 ⟨rfl, rfl⟩
          clear hj
          go_wp2_with fail
          go_ret
          rw [HRE.out]; exact rpost_err HA3.out hc hi3 HR4.out
        | .ok (l, j), ⟨G, v, hl, he, hO4, hR4⟩ =>
          subst hl he
          obtain ⟨g1, g2, g3', g4⟩ := (P_ok EV.out.ok g3).bin (by omega) HR3.out
          obtain ⟨ya, yc, rfl, -⟩ := hO4.form
          have hj := r4join_ok j o 0 _ 12 G F (.slice ya (G.flat 0).length yc) (.slice ax (F.flat 0).length ak) w3 hR4 hO4.isE HO3.out.isE g1.one HG.out.one (by omega) (by omega)
          have HRE : Hid (r = .ok ([both 12 true F G], j)) := by
            rcases HRS.out with ⟨e, h, h2⟩ | ⟨a, i, h, h2⟩
            · have h3 := HR3.out.symm.trans h; cases h3
            · have h3 := HR3.out.symm.trans h; cases h3
              rcases h2 with ⟨_, h2⟩ | ⟨h2, _⟩
              · exact h2
              · exact absurd (by decide) h2
          have HR5 := Lib.hid hR4
          clear hR4 hO4 g1
          go_wp2_with fail
          refine hj.mono ?_
          rintro r4 w4 ⟨v4, rfl, ho, hb⟩
          have HR6 := Lib.hid (HR5.out.below hb)
          have HA6 := Lib.hid (HA3.out.then hb)
          have HO6 := Lib.hid (ho.mono hrw3)
          clear hj ho hb
          go_wp2_with fail
          go_ret
          rw [HRE.out]; exact rpost_ok HA6.out (by rw [← HNB.out]; exact HO6.out) HR6.out
      · have HS := Lib.hid hs
        clear hs
        have hc := r4take_no EV i (by omega) o 0 0 ⟨#[61]⟩ (Or.inl (by rw [isT_some HS.out]; decide)) w1 (HBR.out.then HBL0.out) (HR0.out.below HBL0.out)
        go_wp2_with fail
        refine hc.mono ?_
        rintro r2 v1 ⟨rfl, hb⟩
        have HBL1 := Lib.hid (below_next HBL0.out hb)
        clear hc hb HBL0
        have hc := r4take_no EV i (by omega) o 0 0 ⟨#[60, 62]⟩ (Or.inl (by rw [isT_some HS.out]; decide)) v1 (HBR.out.then HBL1.out) (HR0.out.below HBL1.out)
        go_wp2_with fail
        refine hc.mono ?_
        rintro r2 v2 ⟨rfl, hb⟩
        have HBL2 := Lib.hid (below_next HBL1.out hb)
        clear hc hb HBL1
        have hc := r4take_no EV i (by omega) o 0 0 ⟨#[60]⟩ (Or.inl (by rw [isT_some HS.out]; decide)) v2 (HBR.out.then HBL2.out) (HR0.out.below HBL2.out)
        go_wp2_with fail
        refine hc.mono ?_
        rintro r2 v3 ⟨rfl, hb⟩
        have HBL3 := Lib.hid (below_next HBL2.out hb)
        clear hc hb HBL2
        have hc := r4take_no EV i (by omega) o 0 0 ⟨#[60, 61]⟩ (Or.inl (by rw [isT_some HS.out]; decide)) v3 (HBR.out.then HBL3.out) (HR0.out.below HBL3.out)
        go_wp2_with fail
        refine hc.mono ?_
        rintro r2 v4 ⟨rfl, hb⟩
        have HBL4 := Lib.hid (below_next HBL3.out hb)
        clear hc hb HBL3
        have hc := r4take_no EV i (by omega) o 0 0 ⟨#[62]⟩ (Or.inl (by rw [isT_some HS.out]; decide)) v4 (HBR.out.then HBL4.out) (HR0.out.below HBL4.out)
        go_wp2_with fail
        refine hc.mono ?_
        rintro r2 v5 ⟨rfl, hb⟩
        have HBL5 := Lib.hid (below_next HBL4.out hb)
        clear hc hb HBL4
        have hc := r4take_yes EV i (by omega) o 0 ⟨#[62, 61]⟩ (by rw [isT_some HS.out]; simp) v5 (HBR.out.then HBL5.out) (HR0.out.below HBL5.out)
        go_wp2_with fail
        refine hc.mono ?_
        rintro r2 w2 ⟨rfl, hR9, hA9⟩
        have hA2 : Al rb w1 w2 := (Al.of HBL5.out).next hA9
        obtain ⟨r3, hr3⟩ : ∃ r3, P L g3 (.bin 6) (i + 1) o = some r3 := by
          rcases HRS.out with ⟨e, h, _⟩ | ⟨a, i, h, _⟩
          · exact ⟨_, h⟩
          · exact ⟨_, h⟩
        have HR3 := Lib.hid hr3
        have hcall := IH.out g3 (by omega) 6 (i + 1) o r3 w2 (by omega) (by omega) hr3 (HBR.out.next hA2) (by simpa using hR9)
        have HA2 : Hid (Al rb w w2) := HA.out.next hA2
        have HO2 : Hid (OwnE nb w2 (.slice ax (F.flat 0).length ak) (F.flat 0)) := hA2.ownE HO.out hlt
        have hrw2 : nb ≤ w2.heap.size := by have := hA2.size; omega
        clear hc hR9 hA9 hA2 hr3 HA HO HBR hrw HBL5 HR0
        go_wp2_with fail
        refine hcall.mono ?_
        rintro e w3 ⟨hA3, hpost⟩
        have HA3 : Hid (Al rb w w3) := HA2.out.next hA3
        have HO3 := Lib.hid (hA3.ownE HO2.out hlt)
        have hrw3 : nb ≤ w3.heap.size := by have := hA3.size; omega
        clear hcall hA3
        match r3, hpost with
        | .error (c, p), ⟨y, yn, yk, i3, he, hc, hi3, hR3⟩ =>
          subst he
          have hj := r4join_no i3 o c p 13 hc _ (.slice y yn yk) (.slice ax (F.flat 0).length ak) w3 hR3
          have HRE : Hid (r = .error (c, p)) := by
            rcases HRS.out with ⟨e, h, h2⟩ | ⟨a, i, h, _⟩
            · have h3 := HR3.out.symm.trans h; cases h3; exact h2
            · have h3 := HR3.out.symm.trans h; cases h3
          have HR4 := Lib.hid hR3
          clear hR3
          go_wp2_with fail
          refine hj.mono ?_
          rintro r4 w4 ⟨rfl, rfl⟩
          clear hj
          go_wp2_with fail
          go_ret
          rw [HRE.out]; exact rpost_err HA3.out hc hi3 HR4.out
        | .ok (l, j), ⟨G, v, hl, he, hO4, hR4⟩ =>
          subst hl he
          obtain ⟨g1, g2, g3', g4⟩ := (P_ok EV.out.ok g3).bin (by omega) HR3.out
          obtain ⟨ya, yc, rfl, -⟩ := hO4.form
          have hj := r4join_ok j o 0 _ 13 G F (.slice ya (G.flat 0).length yc) (.slice ax (F.flat 0).length ak) w3 hR4 hO4.isE HO3.out.isE g1.one HG.out.one (by omega) (by omega)
          have HRE : Hid (r = .ok ([both 13 true F G], j)) := by
            rcases HRS.out with ⟨e, h, h2⟩ | ⟨a, i, h, h2⟩
            · have h3 := HR3.out.symm.trans h; cases h3
            · have h3 := HR3.out.symm.trans h; cases h3
              rcases h2 with ⟨_, h2⟩ | ⟨h2, _⟩
              · exact h2
              · exact absurd (by decide) h2
          have HR5 := Lib.hid hR4
          clear hR4 hO4 g1
          go_wp2_with fail
          refine hj.mono ?_
          rintro r4 w4 ⟨v4, rfl, ho, hb⟩
          have HR6 := Lib.hid (HR5.out.below hb)
          have HA6 := Lib.hid (HA3.out.then hb)
          have HO6 := Lib.hid (ho.mono hrw3)
          clear hj ho hb
          go_wp2_with fail
          go_ret
          rw [HRE.out]; exact rpost_ok HA6.out (by rw [← HNB.out]; exact HO6.out) HR6.out
  · cases hax
    have HE : Hid (∀ w2, Below w1.heap.size w1 w2 → RPost (Rd rb (.slice a L.length cc)) rb o w r (.returned (.slice ax an ak)) w2) := fun w2 hb => by rw [hr]; exact rpost_err (hA.then hb) hc hi (hR.below hb)
    have HR0 := Lib.hid hR
    have HB0 : Hid (Al rb w0 w1) := HB.out.next hA
    have HBL0 : Hid (Below w1.heap.size w1 w1) := Below.refl _ _
    have hno0 : Hid (isT L i ⟨#[61]⟩ = false ∨ c ≠ 0) := Or.inr hc
    have hno1 : Hid (isT L i ⟨#[60, 62]⟩ = false ∨ c ≠ 0) := Or.inr hc
    have hno2 : Hid (isT L i ⟨#[60]⟩ = false ∨ c ≠ 0) := Or.inr hc
    have hno3 : Hid (isT L i ⟨#[60, 61]⟩ = false ∨ c ≠ 0) := Or.inr hc
    have hno4 : Hid (isT L i ⟨#[62]⟩ = false ∨ c ≠ 0) := Or.inr hc
    have hno5 : Hid (isT L i ⟨#[62, 61]⟩ = false ∨ c ≠ 0) := Or.inr hc
    clear hA hR hr hc
    have hc0 := r4take_no EV i (by omega) o c p ⟨#[61]⟩ hno0.out w1 HB0.out HR0.out
    go_wp2_with fail
    refine hc0.mono ?_
    rintro r2 w2 ⟨rfl, hb⟩
    have HR1 := Lib.hid (HR0.out.below hb)
    have HB1 := Lib.hid (HB0.out.then hb)
    have HBL1 := Lib.hid (below_next HBL0.out hb)
    clear hc0 hb HR0 HB0 HBL0
    have hc1 := r4take_no EV i (by omega) o c p ⟨#[60, 62]⟩ hno1.out w2 HB1.out HR1.out
    go_wp2_with fail
    refine hc1.mono ?_
    rintro r2 w3 ⟨rfl, hb⟩
    have HR2 := Lib.hid (HR1.out.below hb)
    have HB2 := Lib.hid (HB1.out.then hb)
    have HBL2 := Lib.hid (below_next HBL1.out hb)
    clear hc1 hb HR1 HB1 HBL1
    have hc2 := r4take_no EV i (by omega) o c p ⟨#[60]⟩ hno2.out w3 HB2.out HR2.out
    go_wp2_with fail
    refine hc2.mono ?_
    rintro r2 w4 ⟨rfl, hb⟩
    have HR3 := Lib.hid (HR2.out.below hb)
    have HB3 := Lib.hid (HB2.out.then hb)
    have HBL3 := Lib.hid (below_next HBL2.out hb)
    clear hc2 hb HR2 HB2 HBL2
    have hc3 := r4take_no EV i (by omega) o c p ⟨#[60, 61]⟩ hno3.out w4 HB3.out HR3.out
    go_wp2_with fail
    refine hc3.mono ?_
    rintro r2 w5 ⟨rfl, hb⟩
    have HR4 := Lib.hid (HR3.out.below hb)
    have HB4 := Lib.hid (HB3.out.then hb)
    have HBL4 := Lib.hid (below_next HBL3.out hb)
    clear hc3 hb HR3 HB3 HBL3
    have hc4 := r4take_no EV i (by omega) o c p ⟨#[62]⟩ hno4.out w5 HB4.out HR4.out
    go_wp2_with fail
    refine hc4.mono ?_
    rintro r2 w6 ⟨rfl, hb⟩
    have HR5 := Lib.hid (HR4.out.below hb)
    have HB5 := Lib.hid (HB4.out.then hb)
    have HBL5 := Lib.hid (below_next HBL4.out hb)
    clear hc4 hb HR4 HB4 HBL4
    have hc5 := r4take_no EV i (by omega) o c p ⟨#[62, 61]⟩ hno5.out w6 HB5.out HR5.out
    go_wp2_with fail
    refine hc5.mono ?_
    rintro r2 w7 ⟨rfl, hb⟩
    have HR6 := Lib.hid (HR5.out.below hb)
    have HB6 := Lib.hid (HB5.out.then hb)
    have HBL6 := Lib.hid (below_next HBL5.out hb)
    clear hc5 hb HR5 HB5 HBL5
    go_wp2_with fail
    go_ret
    exact HE.out w7 HBL6.out
end
end Go.Proofs.YtjnpkdpljmkpiaaGreatDoor
