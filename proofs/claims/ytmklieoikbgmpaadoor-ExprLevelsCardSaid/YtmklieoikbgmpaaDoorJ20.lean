/- The program's reader of expressions: the number of a within; what is deferred: the walk. -/
import Derived.Deep.RegionHeld3
import Derived.Defers
import Derived.Test.YtmklieoikbgmpaaDoorJ18
import Derived.Test.YtmklieoikbgmpaaDoorJ19
set_option linter.unusedVariables false
set_option linter.unusedSimpArgs false
namespace Go.Proofs.YtmklieoikbgmpaaDoor
open Go.RowKit Go.Shelf Tx Px
def NumPost (L : List Tok) (rb : Nat) (tv lv pm : Value) (I : Nat) (o p : Int) (v : Nat) (w : World) (e : Ending) (w' : World) : Prop :=
  Al rb w w' ∧ ((v ≤ 1000 ∧ e = .returned (.int .i64 v) ∧ Re w' rb tv ((I : Int) + 1) o 0 p lv pm) ∨ (1000 < v ∧ e = .returned (.int .i64 0) ∧ Re w' rb tv I o 5 (atP L I) lv pm))
theorem atoi_below {w w2 : World} (h : w2 = w ∨ ∃ t, w2 = Lib.bytesWorld w 5 t) : Below w.heap.size w w2 := by
  rcases h with h | ⟨t, h⟩
  · rw [h]; exact Below.refl _ _
  · rw [h]; exact Lib.bytesWorld_below _ _ _
section
variable {L : List Tok} {a : Option Addr} {cc rb : Nat} {w0 : World} {lv pm : Value}
set_option maxRecDepth 100000 in
set_option maxHeartbeats 4000000 in
theorem number_num (EV : Hid (EnvOk w0 rb a cc L)) (I : Nat) (hI : I ≤ 200000) (o p : Int) (x : Tok) (hx : L[I]? = some x) (hk : x.k = 2) (w : World) (hB : Al rb w0 w) (hR : Re w rb (.slice a L.length cc) I o 0 p lv pm) :
    Calls Tryd.prog 66 #[.pointer (some ⟨rb, 0, none⟩)] w (NumPost L rb (.slice a L.length cc) lv pm I o p (Lx.val x.t.data.toList) w) := by
  obtain ⟨c0, c1, c2, c3, c4, c5, c6⟩ := hR.cells
  have hi1 : (0 : Int) ≤ (I : Int) := by omega
  have htok := (EV.out.ok x (List.mem_of_getElem? hx)).num hk
  obtain ⟨b, q, rfl, d0, d1, d2⟩ := EV.out.tok w hB I x hx
  have hlt : I < L.length := (List.getElem?_eq_some_iff.1 hx).1
  have h2 : (I : Int) < (L.length : Int) := by omega
  rw [hk] at d0
  have hat := Lx.atoi_digits htok.1 htok.2.2.2 (by rw [size_toList]; exact htok.2.2.1)
  have hatoi := fun W => Tryd.strconv_Atoi_ok x.t (by have := htok.2.2.1; omega) (Lx.val x.t.data.toList : Nat) hat W
  have hf := fun W (hW : Below w.heap.size w W) => efail_yes EV I hI o p 5 W (hB.then hW) (hR.below hW)
  have HR := Lib.hid hR
  have HB := Lib.hid hB
  have HLT := Lib.hid (And.intro hlt EV.out.len)
  obtain ⟨vv, hvv⟩ : ∃ vv, vv = Lx.val x.t.data.toList := ⟨_, rfl⟩
  rw [← hvv] at hatoi ⊢
  have hv2 : vv ≤ 2147483647 := by rw [hvv]; exact htok.2.1
  have hd1 : decide (I < L.length) = true := by simp; omega
  clear hB hR hx hk htok hat hvv hI hlt EV d2
  go_enter Tryd.func66, Tryd.ntmps66
  go_wp2_with fail
  go_quiet (fail)
  go_wp2_with fail
  obtain ⟨W, hW⟩ : ∃ W, W = w.drewN nq := ⟨_, rfl⟩
  have hb1 : Below w.heap.size w W := by rw [hW]; exact below_drawn (Below.refl _ _) _
  have e0 : W.cell? ⟨rb, 0, none⟩ = some (.slice (some ⟨b, q, none⟩) L.length cc) := by rw [hW]; exact c0
  have e1 : W.cell? ⟨rb, 1, none⟩ = some (.int .i64 I) := by rw [hW]; exact c1
  have e2 : W.cell? ⟨b, q + I * 3 + 1, none⟩ = some (.string x.t) := by rw [hW]; exact d1
  rw [← hW]
  clear hW c0 c1 c2 c3 c4 c5 c6 d0 d1
  have K0 : W.cell? ⟨rb, 0, none⟩ = some (.slice (some ⟨b, q, none⟩) L.length cc) ∧ W.cell? ⟨rb, 1, none⟩ = some (.int .i64 I) ∧ W.cell? ⟨b, q + I * 3 + 1, none⟩ = some (.string x.t) := ⟨e0, e1, e2⟩
  have K1 : W.drew.cell? ⟨rb, 0, none⟩ = some (.slice (some ⟨b, q, none⟩) L.length cc) ∧ W.drew.cell? ⟨rb, 1, none⟩ = some (.int .i64 I) ∧ W.drew.cell? ⟨b, q + I * 3 + 1, none⟩ = some (.string x.t) := K0
  go_region_held3 (fun w' => w'.cell? ⟨rb, 0, none⟩ = some (.slice (some ⟨b, q, none⟩) L.length cc) ∧ w'.cell? ⟨rb, 1, none⟩ = some (.int .i64 I) ∧ w'.cell? ⟨b, q + I * 3 + 1, none⟩ = some (.string x.t))
    (first | exact K2 | exact K1 | exact K0)
    ((go_at_call 26; refine (hatoi _).mono ?_; rintro r w2 ⟨rfl, hw2⟩; have hb2 : Below W.heap.size W w2 := (by first | exact below_next ((Below.refl W.heap.size W).drew) (atoi_below hw2) | exact atoi_below hw2); have K2 : w2.cell? ⟨rb, 0, none⟩ = some (.slice (some ⟨b, q, none⟩) L.length cc) ∧ w2.cell? ⟨rb, 1, none⟩ = some (.int .i64 I) ∧ w2.cell? ⟨b, q + I * 3 + 1, none⟩ = some (.string x.t) := ⟨(hb2.cell (World.block_lt_of_cell? _ _ e0)).trans e0, (hb2.cell (World.block_lt_of_cell? _ _ e1)).trans e1, (hb2.cell (World.block_lt_of_cell? _ _ e2)).trans e2⟩))
  have HR2 := Lib.hid (HR.out.below (below_next hb1 hb2))
  have HA2 : Hid (Al rb w w2) := Al.of (below_next hb1 hb2)
  have hf2 := hf w2 (below_next hb1 hb2)
  obtain ⟨c0, c1, c2, c3, c4, c5, c6⟩ := HR2.out.cells
  obtain ⟨f0, f1, f2, f3, f4⟩ := HR2.out.free
  clear hatoi hf hw2 hb2 K0 K1 K2 e0 e1 e2 hb1
  by_cases hv : vv ≤ 1000
  · have hv1 : (vv : Int) ≤ 1000 := by omega
    have hvd : decide (vv ≤ 1000) = true := by simp; omega
    have HSET := Lib.hid (HR2.out.setI ((I : Int) + 1))
    have HASET : Hid (Al rb w (w2.setCell ⟨rb, 1, none⟩ (.int .i64 ((I : Int) + 1)))) := HA2.out.set _ _
    obtain ⟨hI5, hI6⟩ := HLT.out
    have hL5 : (I : Int) + 1 ≤ 300000 := by omega
    go_wp2_with fail
    go_ret
    exact ⟨HASET.out, Or.inl ⟨hv, rfl, HSET.out⟩⟩
  · have hv1 : ¬ (vv : Int) ≤ 1000 := by omega
    have hvd : decide (vv ≤ 1000) = false := by simp; omega
    go_wp2_with fail
    refine hf2.mono ?_
    rintro r w3 ⟨rfl, hR3, hA3⟩
    have HR3 := Lib.hid hR3
    have HA3 := Lib.hid hA3
    clear hf2 hR3 hA3
    go_wp2_with fail
    go_ret
    exact ⟨HA2.out.next HA3.out, Or.inr ⟨by omega, rfl, HR3.out⟩⟩
set_option maxRecDepth 100000 in
set_option maxHeartbeats 4000000 in
theorem number_no (EV : Hid (EnvOk w0 rb a cc L)) (I : Nat) (hI : I ≤ 200000) (o p : Int) (hn : ∀ x, L[I]? = some x → x.k ≠ 2) (w : World) (hB : Al rb w0 w) (hR : Re w rb (.slice a L.length cc) I o 0 p lv pm) :
    Calls Tryd.prog 66 #[.pointer (some ⟨rb, 0, none⟩)] w fun e w' => Al rb w w' ∧ e = .returned (.int .i64 0) ∧ Re w' rb (.slice a L.length cc) I o 5 (atP L I) lv pm := by
  obtain ⟨c0, c1, c2, c3, c4, c5, c6⟩ := hR.cells
  have hi1 : (0 : Int) ≤ (I : Int) := by omega
  have hf := fun q => efail_yes EV I hI o p 5 (w.drewN q) (hB.drewN q) (hR.drewN q)
  by_cases h : I < L.length
  · obtain ⟨x, hx⟩ : ∃ x, L[I]? = some x := ⟨_, List.getElem?_eq_getElem h⟩
    obtain ⟨b, q, rfl, d0, d1, d2⟩ := EV.out.tok w hB I x hx
    have h2 : (I : Int) < (L.length : Int) := by omega
    have hk := hn x hx
    obtain ⟨k, hkk⟩ : ∃ k : Int, k = x.k := ⟨_, rfl⟩
    rw [← hkk] at d0
    have k3 : (k == 2) = false := by rw [beq_eq_false_iff_ne]; omega
    have hd1 : decide (I < L.length) = true := by simp; omega
    clear hB hR hx hn hk hkk EV h
    go_enter Tryd.func66, Tryd.ntmps66
    go_wp2_with fail
    go_quiet (fail)
    have hf2 := hf nq
    have HA : Hid (Al rb w (w.drewN nq)) := (Al.refl _ _).drewN nq
    clear hf
    generalize w.drewN nq = W at *
    clear c0 c1 c2 c3 c4 c5 c6 d0 d1 d2
    go_wp2_with fail
    refine hf2.mono ?_
    rintro r w3 ⟨rfl, hR3, hA3⟩
    have HR3 := Lib.hid hR3
    have HA3 := Lib.hid hA3
    clear hf2 hR3 hA3
    go_wp2_with fail
    go_ret
    exact ⟨HA.out.next HA3.out, rfl, HR3.out⟩
  · have h2 : (L.length : Int) ≤ (I : Int) := by omega
    have hd1 : decide (I < L.length) = false := by simp; omega
    clear hB hR hn EV h
    go_enter Tryd.func66, Tryd.ntmps66
    go_wp2_with fail
    go_quiet (fail)
    have hf2 := hf nq
    have HA : Hid (Al rb w (w.drewN nq)) := (Al.refl _ _).drewN nq
    clear hf
    generalize w.drewN nq = W at *
    clear c0 c1 c2 c3 c4 c5 c6
    go_wp2_with fail
    refine hf2.mono ?_
    rintro r w3 ⟨rfl, hR3, hA3⟩
    have HR3 := Lib.hid hR3
    have HA3 := Lib.hid hA3
    clear hf2 hR3 hA3
    go_wp2_with fail
    go_ret
    exact ⟨HA.out.next HA3.out, rfl, HR3.out⟩
set_option maxRecDepth 100000 in
theorem odefer_any (u : FrameMode) (W : World) (xb : Nat) (I o c p : Int) (tv : Value) (hx : W.cell? ⟨xb, 0, none⟩ = some (.pointer (some ⟨rb, 0, none⟩))) (hR : Re W rb tv I o c p lv pm) (ho : -1000 ≤ o ∧ o ≤ 1000) :
    CallsD Tryd.prog 63 #[.pointer (some ⟨xb, 0, none⟩)] u W fun e u' w' => u' = u ∧ (e = .returned (.tuple #[]) ∧ w' = W.setCell ⟨rb, 2, none⟩ (.int .i64 (o - 1))) := by
  obtain ⟨c0, c1, c2, c3, c4, c5, c6⟩ := hR.cells
  obtain ⟨f0, f1, f2, f3, f4⟩ := hR.free
  obtain ⟨ho1, ho2⟩ := ho
  clear hR
  go_enter_d Tryd.func63, Tryd.ntmps63
  go_wp2_with fail
  go_end0
  exact ⟨rfl, rfl⟩
end
end Go.Proofs.YtmklieoikbgmpaaDoor
