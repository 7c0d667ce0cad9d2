/- The program's reader of expressions: where there was a fault: the walk. The reference's reader of expressions: an operand, each level: the walk. The program's reader of expressions: an operand: the walk. The reference's reader of expressions: an expression out of tokens: the walk. -/
import Derived.Deep.QuietTactic
import Derived.BigQuiet
import Derived.Lib.Hide
import Derived.Test.YtahalimekacliaaGreatDoorJ1
import Derived.Test.YtahalimekacliaaGreatDoorJ3
import Derived.Test.YtahalimekacliaaGreatDoorJ9
import Derived.Test.YtahalimekacliaaGreatDoorJ10
import Derived.Test.YtahalimekacliaaGreatDoorJ16
set_option linter.unusedVariables false
set_option linter.unusedSimpArgs false
namespace Go.Proofs.YtahalimekacliaaGreatDoor
open Go.RowKit Go.Shelf Tx Px
section
variable {L : List Tok} {a : Option Addr} {cc rb lb pb : Nat} {w0 : World}
set_option maxRecDepth 100000 in
set_option maxHeartbeats 4000000 in
theorem operand_fault (i o c p : Int) (hc : c ≠ 0) (w : World) (hR : RE rb a cc L lb pb w i o c p) :
    Calls Tryz.prog 121 #[.pointer (some ⟨rb, 0, none⟩)] w fun e w' => e = .returned (.slice none 0 0) ∧ Below w.heap.size w w' := by
  have hb : Below w.heap.size w (w.alloc (.cells #[.pointer (some ⟨rb, 0, none⟩)] 132)) := (Below.refl _ _).alloc (Nat.le_refl _) _
  have hbx := (one_cell (Blk.new w #[.pointer (some ⟨rb, 0, none⟩)] 132)).1
  have hok := eok_any i o c p _ _ (hR.below hb)
  rw [decide_eq_false hc] at hok
  have HB := Lib.hid hb
  clear hR hb hc
  go_enter_defers Tryz.func121, Tryz.ntmps121
  go_wp2_with fail
  refine hok.mono ?_
  rintro e w3 ⟨rfl, rfl⟩
  clear hok
  go_wp2_with fail
  exact ⟨_, results_tmp rfl _ _ _, rfl, HB.out⟩
set_option maxRecDepth 100000 in
set_option maxHeartbeats 4000000 in
theorem binary_fault {ms : Nat → Nat} (EX : Hid (EnvX w0 rb a cc L lb pb ms)) (i : Nat) (hi : i ≤ 200000) (o c p : Int) (hc : c ≠ 0) : ∀ (k n : Nat), n + k = 8 → ∀ (w : World), Al rb w0 w → RE rb a cc L lb pb w i o c p →
    Calls Tryz.prog 116 #[.pointer (some ⟨rb, 0, none⟩), .int .i64 (n : Nat)] w fun e w' => e = .returned (.slice none 0 0) ∧ Below w.heap.size w w'
  | 0, n, hn, w, _, hR => by
    obtain rfl : n = 8 := by omega
    have hop := operand_fault i o c p hc w hR
    obtain ⟨c0, c1, c2, c3, c4, c5, c6⟩ := hR.cells
    clear hR hc
    go_enter Tryz.func116, Tryz.ntmps116
    go_wp2_with fail
    refine hop.mono ?_
    rintro e w3 ⟨rfl, hb⟩
    have HB := Lib.hid hb
    clear hop hb
    go_wp2_with fail
    go_ret
    exact ⟨rfl, HB.out⟩
  | k + 1, n, hn, w, hB, hR => by
    have hcall : Calls Tryz.prog 116 #[.pointer (some ⟨rb, 0, none⟩), .int .i64 ((n : Int) + 1)] w fun e w' => e = .returned (.slice none 0 0) ∧ Below w.heap.size w w' := binary_fault EX i hi o c p hc k (n + 1) (by omega) w hB hR
    obtain ⟨c0, c1, c2, c3, c4, c5, c6⟩ := hR.cells
    have hn8 : ((n : Int) == 8) = false := by rw [beq_eq_false_iff_ne]; omega
    have hn9 : (n : Int) < 8 := by omega
    have hn0 : (0 : Int) ≤ (n : Int) := by omega
    have HN : Hid (n < 8) := by show _ < _; omega
    have HR := Lib.hid hR
    have HAB := Lib.hid hB
    have EV : Hid (EnvOk w0 rb a cc L) := EX.out.ev
    have HC := Lib.hid hc
    clear hR hB hn hc
    go_enter Tryz.func116, Tryz.ntmps116
    go_wp2_with fail
    refine hcall.mono ?_
    rintro e w1 ⟨rfl, hb⟩
    have HB1 := Lib.hid hb
    have hA1 : Al rb w0 w1 := HAB.out.then hb
    have HA1 := Lib.hid hA1
    obtain ⟨M0, l0, l1, l2⟩ := EX.out.lv w1 hA1 n HN.out
    have HR1 := Lib.hid (HR.out.below hb)
    obtain ⟨m, hm⟩ : ∃ m, m = ms n := ⟨_, rfl⟩
    rw [← hm] at M0 l0
    obtain ⟨rg, hrg⟩ : ∃ rg, rg = decide (n ≤ 1) := ⟨_, rfl⟩
    obtain ⟨oc, hoc⟩ : ∃ oc, oc = decide (n = 5) := ⟨_, rfl⟩
    rw [← hrg] at l1
    rw [← hoc] at l2
    clear hrg hoc hm hA1 hcall hb c0 c1 c2 c3 c4 c5 c6
    obtain ⟨c0, c1, c2, c3, c4, c5, c6⟩ := HR1.out.cells
    have M1 := Lib.hid M0
    clear M0
    go_wp2_with fail
    obtain ⟨W, hW⟩ : ∃ W, W = w1.alloc (.cells #[.map (some m), .bool rg, .bool oc] 154) := ⟨_, rfl⟩
    have hbl : Below w1.heap.size w1 W := by rw [hW]; exact (Below.refl _ _).alloc (Nat.le_refl _) _
    have hbk : Blk W w1.heap.size #[.map (some m), .bool rg, .bool oc] 154 := by rw [hW]; exact Blk.new w1 _ _
    have hhere := fun q => ehere_any EV i hi o c p (W.drewN q) ((HA1.out.then hbl).drewN q) ((HR1.out.below hbl).drewN q)
    have hsn : hereS c L i = noS := by unfold hereS; rw [if_neg HC.out]
    rw [hsn] at hhere
    have hlk : ∀ q, (Instr.lookup 103 (.map (some m)) (.string noS) true).run Tryz.prog (W.drewN q) = .ok (.tuple #[((look noS (lvl n)).map vI).getD (.int .i64 0), .bool (look noS (lvl n)).isSome]) (W.drewN q) :=
      fun q => ((map_past M1.out hbl).of_block (w' := W.drewN q) rfl).lookup keyText Tryz.underlying103 (z := .int .i64 0) (fun w => by kernel_rfl) noS
    rw [look_noS] at hlk
    simp only [Option.map_none, Option.getD_none, Option.isSome_none] at hlk
    obtain ⟨b0, b1, b2⟩ := tri_cells hbk
    have HBL := Lib.hid hbl
    rw [← hW]
    clear hsn hbk hbl hW c0 c1 c2 c3 c4 c5 c6 l0 l1 l2
    go_loopw [5, 6] (fun av lv wr => av = .slice none 0 0 ∧ lv = .pointer (some ⟨w1.heap.size, 0, none⟩) ∧ wr = W) (fun _ _ _ => 0)
    case atStart => exact ⟨rfl, rfl, rfl⟩
    case round =>
      obtain ⟨rfl, rfl, hwr⟩ := hrel
      subst hwr
      go_wp2_with fail
      go_quiet ((go_at_call 122; exact Calls.quiet_of (hhere _)))
      have HB2 := Lib.hid (below_drawn (Below.refl wr.heap.size wr) nq)
      generalize wr.drewN nq = V at HB2
      clear hhere hlk b0 b1 b2
      go_wp2_with fail
      go_ret
      exact ⟨rfl, below_next HB1.out (below_next HBL.out HB2.out)⟩
theorem whole_fault {ms : Nat → Nat} (EX : Hid (EnvX w0 rb a cc L lb pb ms)) (i : Nat) (hi : i ≤ 200000) (o c p : Int) (hc : c ≠ 0) (w : World) (hB : Al rb w0 w) (hR : RE rb a cc L lb pb w i o c p) :
    Calls Tryz.prog 104 #[.pointer (some ⟨rb, 0, none⟩)] w fun e w' => e = .returned (.slice none 0 0) ∧ Below w.heap.size w w' := by
  have hcall : Calls Tryz.prog 116 #[.pointer (some ⟨rb, 0, none⟩), .int .i64 0] w fun e w' => e = .returned (.slice none 0 0) ∧ Below w.heap.size w w' := binary_fault EX i hi o c p hc 8 0 rfl w hB hR
  clear hB hR hc
  go_enter Tryz.func104, Tryz.ntmps104
  go_wp2_with fail
  refine hcall.mono ?_
  rintro e w1 ⟨rfl, hb⟩
  have HB := Lib.hid hb
  clear hcall hb
  go_wp2_with fail
  go_ret
  exact ⟨rfl, HB.out⟩
end
end Go.Proofs.YtahalimekacliaaGreatDoor
namespace Go.Proofs.YtahalimekacliaaGreatDoor
open Go.RowKit Go.Shelf Tx Px
section
variable {L : List Tok} {a : Option Addr} {cc rb : Nat} {w0 : World}
theorem operand_cases {p : Orc} {L : List Tok} {I o : Nat} {r : Res} (h : operandS p L I o = some r) :
    (200 ≤ o ∧ r = .error (6, atP L I)) ∨ (o < 200 ∧ L.length ≤ I ∧ r = .error (5, atP L I)) ∨ (o < 200 ∧ ∃ x, L[I]? = some x ∧
      ((x.k = 2 ∧ one (node 1 (Lx.val x.t.data.toList) noS .no) (I + 1) = some r) ∨ (x.k = 1 ∧ namedS p L x.t I (o + 1) = some r) ∨ ((x.k = 3 ∨ x.k = 4) ∧ signS p L x.t I o = some r) ∨ ((x.k ≠ 1 ∧ x.k ≠ 2 ∧ x.k ≠ 3 ∧ x.k ≠ 4) ∧ errAt L 5 I = some r))) := by
  unfold operandS at h
  split at h
  · rename_i h1; exact Or.inl ⟨h1, (Option.some.inj h).symm⟩
  rename_i h1
  right
  split at h
  · rename_i h2; exact Or.inl ⟨by omega, List.getElem?_eq_none_iff.1 h2, (Option.some.inj h).symm⟩
  rename_i x hx
  refine Or.inr ⟨by omega, x, hx, ?_⟩
  split at h
  · rename_i h2; exact Or.inl ⟨h2, h⟩
  rename_i h2
  split at h
  · rename_i h3; exact Or.inr (Or.inl ⟨h3, by unfold namedS; exact h⟩)
  rename_i h3
  split at h
  · rename_i h4; exact Or.inr (Or.inr (Or.inl ⟨h4, h⟩))
  · rename_i h4; exact Or.inr (Or.inr (Or.inr ⟨by omega, h⟩))
theorem sign_cases {p : Orc} {L : List Tok} {s : ByteArray} {I o : Nat} {r : Res} (h : signS p L s I o = some r) :
    (preAt s = some 25 ∧ withinS p L I (o + 1) = some r) ∨ (∃ op, preAt s = some op ∧ op ≠ 25 ∧ (thenE (p (.bin 8) (I + 1) (o + 1)) fun a i => one (node op 0 noS a) i) = some r) ∨
    (s = ⟨#[116, 114, 117, 101]⟩ ∧ one (node 2 1 noS .no) (I + 1) = some r) ∨ (s = ⟨#[102, 97, 108, 115, 101]⟩ ∧ one (node 2 0 noS .no) (I + 1) = some r) ∨
    (s = ⟨#[40]⟩ ∧ (thenE (p (.bin 0) (I + 1) (o + 1)) fun a i => needT L tRpar i fun i => one a i) = some r) ∨ (s = ⟨#[105, 102]⟩ ∧ choiceS p L (I + 1) (o + 1) = some r) ∨
    (preAt s = none ∧ (s ≠ ⟨#[116, 114, 117, 101]⟩ ∧ s ≠ ⟨#[102, 97, 108, 115, 101]⟩ ∧ s ≠ ⟨#[40]⟩ ∧ s ≠ ⟨#[105, 102]⟩) ∧ errAt L 5 I = some r) := by
  unfold signS at h
  split at h
  · rename_i op hop
    split at h
    · rename_i h25; subst h25; exact Or.inl ⟨hop, by unfold withinS; exact h⟩
    · rename_i h25; exact Or.inr (Or.inl ⟨op, hop, h25, h⟩)
  · rename_i hop
    right; right
    split at h
    · rename_i h1; exact Or.inl ⟨h1, h⟩
    rename_i h1; right
    split at h
    · rename_i h2; exact Or.inl ⟨h2, h⟩
    rename_i h2; right
    split at h
    · rename_i h3; exact Or.inl ⟨h3, h⟩
    rename_i h3; right
    split at h
    · rename_i h4; exact Or.inl ⟨h4, by unfold choiceS; exact h⟩
    rename_i h4; right
    exact ⟨hop, ⟨h1, h2, h3, h4⟩, h⟩
end
end Go.Proofs.YtahalimekacliaaGreatDoor
namespace Go.Proofs.YtahalimekacliaaGreatDoor
open Go.RowKit Go.Shelf Tx Px
def OnOk (w0 : World) (rb : Nat) (a : Option Addr) (cc : Nat) (L : List Tok) (lb pb : Nat) (f : Nat) : Prop :=
  ∀ (I o : Nat) (r : Res) (w : World), I ≤ L.length → P L f (.bin 8) I o = some r → Al rb w0 w → RE rb a cc L lb pb w I o 0 0 →
    Calls Tryz.prog 121 #[.pointer (some ⟨rb, 0, none⟩)] w (RPost (RE rb a cc L lb pb) rb o w r)
section
variable {L : List Tok} {a : Option Addr} {cc rb lb pb : Nat} {w0 : World}
structure Kp (w0 w : World) (rb : Nat) (xb tb : Nat) (x : Tok) (W : World) : Prop where
  al : Al rb w W
  box : Blk W xb #[.pointer (some ⟨rb, 0, none⟩)] 132
  tok : Blk W tb #[.int .i64 (x.k : Nat), .string x.t, .int .i64 (x.p : Nat)] 47
  xb : w.heap.size ≤ xb
  tb : w.heap.size ≤ tb
  rb : rb < w.heap.size
theorem Kp.next {w : World} {xb tb : Nat} {x : Tok} {W W' : World} (h : Kp w0 w rb xb tb x W) (k : Al rb W W') : Kp w0 w rb xb tb x W' := by
  have h1 := h.xb
  have h2 := h.tb
  have h3 := h.rb
  exact ⟨h.al.next k, k.blk h.box (by omega), k.blk h.tok (by omega), h1, h2, h3⟩
theorem Kp.cells {w : World} {xb tb : Nat} {x : Tok} {W : World} (h : Kp w0 w rb xb tb x W) : W.cell? ⟨xb, 0, none⟩ = some (.pointer (some ⟨rb, 0, none⟩)) ∧ W.cell? ⟨tb, 0, none⟩ = some (.int .i64 (x.k : Nat)) ∧ W.cell? ⟨tb, 1, none⟩ = some (.string x.t) :=
  ⟨(one_cell h.box).1, (tri_cells h.tok).1, (tri_cells h.tok).2.1⟩
theorem door_ok {w W : World} {xb tb : Nat} {x : Tok} {o i : Nat} {F : Fo} {v : Value} (hk : Kp w0 w rb xb tb x W) (hR : RE rb a cc L lb pb W (i : Nat) ((o + 1 : Nat) : Int) 0 0) (hv : OwnE w.heap.size W v (F.flat 0)) :
    RPost (RE rb a cc L lb pb) rb o w (.ok ([F], i)) (.returned v) (W.setCell ⟨rb, 2, none⟩ (.int .i64 (((o + 1 : Nat) : Int) - 1))) := by
  have h := hR.setO (((o + 1 : Nat) : Int) - 1)
  have e : (((o + 1 : Nat) : Int) - 1) = (o : Int) := by omega
  refine rpost_ok (hk.al.set _ _) (((Al.refl rb W).set 2 _).ownE hv hk.rb) ?_
  rw [e] at h ⊢; exact h
theorem door_err {w W : World} {xb tb : Nat} {x : Tok} {o i : Nat} {c p : Int} {ad : Option Addr} {n k : Nat} (hk : Kp w0 w rb xb tb x W) (hR : RE rb a cc L lb pb W (i : Nat) ((o + 1 : Nat) : Int) c p) (hc : c ≠ 0) (hi : i ≤ 200000) :
    RPost (RE rb a cc L lb pb) rb o w (.error (c, p)) (.returned (.slice ad n k)) (W.setCell ⟨rb, 2, none⟩ (.int .i64 (((o + 1 : Nat) : Int) - 1))) := by
  have h := hR.setO (((o + 1 : Nat) : Int) - 1)
  have e : (((o + 1 : Nat) : Int) - 1) = (o : Int) := by omega
  refine rpost_err (hk.al.set _ _) hc hi ?_
  rw [e] at h ⊢; exact h
theorem number_good {lv pm : Value} (EV : Hid (EnvOk w0 rb a cc L)) (I : Nat) (hI : I ≤ 200000) (o p : Int) (x : Tok) (hx : L[I]? = some x) (hk : x.k = 2) (hv : Lx.val x.t.data.toList ≤ 1000) (w : World) (hB : Al rb w0 w) (hR : Re w rb (.slice a L.length cc) I o 0 p lv pm) :
    Calls Tryz.prog 130 #[.pointer (some ⟨rb, 0, none⟩)] w fun e w' => Al rb w w' ∧ e = .returned (.int .i64 (Lx.val x.t.data.toList : Nat)) ∧ Re w' rb (.slice a L.length cc) ((I : Int) + 1) o 0 p lv pm :=
  (number_num EV I hI o p x hx hk w hB hR).mono fun e w' ⟨h1, h2⟩ => by
    rcases h2 with ⟨_, h3, h4⟩ | ⟨h3, _⟩
    · exact ⟨h1, h3, h4⟩
    · omega
theorem number_bad {lv pm : Value} (EV : Hid (EnvOk w0 rb a cc L)) (I : Nat) (hI : I ≤ 200000) (o p : Int) (hu : ∀ u, L[I]? = some u → ¬ (u.k = 2 ∧ Lx.val u.t.data.toList ≤ 1000)) (w : World) (hB : Al rb w0 w) (hR : Re w rb (.slice a L.length cc) I o 0 p lv pm) :
    Calls Tryz.prog 130 #[.pointer (some ⟨rb, 0, none⟩)] w fun e w' => Al rb w w' ∧ e = .returned (.int .i64 0) ∧ Re w' rb (.slice a L.length cc) I o 5 (atP L I) lv pm := by
  by_cases h : ∃ x, L[I]? = some x ∧ x.k = 2
  · obtain ⟨x, hx, hk⟩ := h
    refine (number_num EV I hI o p x hx hk w hB hR).mono fun e w' ⟨h1, h2⟩ => ?_
    rcases h2 with ⟨h3, _⟩ | ⟨_, h3, h4⟩
    · exact absurd ⟨hk, h3⟩ (hu x hx)
    · exact ⟨h1, h3, h4⟩
  · exact number_no EV I hI o p (fun x hx hk => h ⟨x, hx, hk⟩) w hB hR
theorem kids_un {op n : Int} {s : ByteArray} (h : op = 4 ∨ op = 5 ∨ (21 ≤ op ∧ op ≤ 25)) : (kids (leaf op n s)).length = 1 := by
  rw [kids_leaf, if_neg (by omega), if_neg (by omega), if_neg (by omega), if_neg (by omega), if_pos (by omega)]
theorem eleaf (op n : Int) (s : ByteArray) (h : op = 1 ∨ op = 2 ∨ op = 3) (I o p : Int) (tv : Value) {lv pm : Value} (w : World) (hR : Re w rb tv I o 0 p lv pm) :
    Calls Tryz.prog 123 #[.pointer (some ⟨rb, 0, none⟩), .int .i64 op, .int .i64 n, .string s, .slice none 0 0] w fun r w' => ∃ v', r = .returned v' ∧ OwnE w.heap.size w' v' ((node op n s .no).flat 0) ∧ Below w.heap.size w w' := by
  have hj := ejoin_ok I o p tv op n s [] (.slice none 0 0) w hR Sg.nil_ (fun F hF => by simp at hF) (by simp [cat, Fo.size]) (by omega) (fun _ => by
    rw [kids_leaf, if_neg (by omega), if_neg (by omega), if_neg (by omega), if_neg (by omega), if_neg (by omega)]; rfl)
  rw [join_nil op n s (by omega)] at hj
  exact hj
set_option maxRecDepth 100000 in
set_option maxHeartbeats 16000000 in
theorem operand_early {ms : Nat → Nat} (EX : Hid (EnvX w0 rb a cc L lb pb ms)) (I o : Nat) (r : Res) (w : World) (hI : I ≤ L.length) (hcs : (200 ≤ o ∧ r = .error (6, atP L I)) ∨ (o < 200 ∧ L.length ≤ I ∧ r = .error (5, atP L I))) (hB : Al rb w0 w) (hR : RE rb a cc L lb pb w I o 0 0) :
    Calls Tryz.prog 121 #[.pointer (some ⟨rb, 0, none⟩)] w (RPost (RE rb a cc L lb pb) rb o w r) := by
  have hL := EX.out.ev.len
  have EV : Hid (EnvOk w0 rb a cc L) := EX.out.ev
  have hlt := hR.lt
  obtain ⟨xb, hxb⟩ : ∃ xb, xb = w.heap.size := ⟨_, rfl⟩
  have HXB := Lib.hid hxb
  obtain ⟨W0, hW0⟩ : ∃ W0, W0 = w.alloc (.cells #[.pointer (some ⟨rb, 0, none⟩)] 132) := ⟨_, rfl⟩
  have hb0 : Below w.heap.size w W0 := by rw [hW0]; exact (Below.refl _ _).alloc (Nat.le_refl _) _
  have hbx : Blk W0 xb #[.pointer (some ⟨rb, 0, none⟩)] 132 := by rw [hW0, hxb]; exact Blk.new w _ _
  have hR0 := hR.below hb0
  have hA0 : Al rb w W0 := Al.of hb0
  have hok := eok_any I o 0 0 _ _ hR0
  have HW0 := Lib.hid hW0
  have HB := Lib.hid hB
  have HC := Lib.hid hcs
  have HBX := Lib.hid hbx
  have HR0 := Lib.hid hR0
  have HA0 := Lib.hid hA0
  have hxr : xb ≠ rb := by omega
  rw [hxb.symm] at hlt
  clear hcs hB hR hb0 hR0 hA0 hxb hW0
  obtain ⟨c0, c1, c2, c3, c4, c5, c6⟩ := HR0.out.cells
  obtain ⟨f0, f1, f2, f3, f4⟩ := HR0.out.free
  have b0 := (one_cell hbx).1
  clear hbx
  have hmf : ∀ (fn : Fn) (first cap : Array Value) (w : World), (Instr.makeFunc fn first cap).run Tryz.prog w = .ok (.func fn first cap) w := fun _ _ _ _ => rfl
  go_enter_defers Tryz.func121, Tryz.ntmps121
  go_wp2_with fail
  rw [← HXB.out, ← HW0.out]
  refine hok.mono ?_
  rintro e w3 ⟨rfl, rfl⟩
  clear hok
  by_cases h200 : 200 ≤ o
  · have hf := efail_yes EV I (by omega) o 0 6 w3 (HB.out.next HA0.out) HR0.out
    have ho1 : (200 : Int) ≤ (o : Int) := by omega
    have HRE : Hid (r = .error (6, atP L I)) := by
      rcases HC.out with ⟨_, h⟩ | ⟨h, _⟩
      · exact h
      · omega
    clear HC
    go_wp2_with fail
    refine hf.mono ?_
    rintro e w4 ⟨rfl, hR4, hA4⟩
    have HR4 := Lib.hid hR4
    have HA4 := Lib.hid hA4
    clear hf hR4 hA4 c0 c1 c2 c3 c4 c5 c6 f0 f1 f2 f3 f4 b0
    go_wp2_with fail
    refine ⟨_, results_tmp rfl _ _ _, ?_⟩
    rw [HRE.out]
    exact rpost_err (HA0.out.next HA4.out) (by decide) (by omega) HR4.out
  · have ho1 : (o : Int) < 200 := by omega
    have hlen : L.length ≤ I := by
      rcases HC.out with ⟨h, _⟩ | ⟨_, h, _⟩
      · omega
      · exact h
    · have hf := fun q => efail_yes EV I (by omega) o 0 5 (w3.drewN q) ((HB.out.next HA0.out).drewN q) (HR0.out.drewN q)
      have hl1 : (L.length : Int) ≤ (I : Int) := by omega
      have hd1 : decide (L.length ≤ I) = true := by simp; omega
      have HRE : Hid (r = .error (5, atP L I)) := by
        rcases HC.out with ⟨h, _⟩ | ⟨_, _, h⟩
        · omega
        · exact h
      clear HC
      go_wp2_with fail
      go_quiet (fail)
      have hf2 := hf nq
      have HA1 : Hid (Al rb w (w3.drewN nq)) := HA0.out.drewN nq
      have b1 : (w3.drewN nq).cell? ⟨xb, 0, none⟩ = some (.pointer (some ⟨rb, 0, none⟩)) := b0
      clear hf
      generalize w3.drewN nq = W at *
      clear c0 c1 c2 c3 c4 c5 c6 f0 f1 f2 f3 f4 b0
      go_wp2_with fail
      refine hf2.mono ?_
      rintro e w4 ⟨rfl, hR4, hA4⟩
      have HR4 := Lib.hid hR4
      have HA4 := Lib.hid hA4
      clear hf2 hR4 hA4
      go_wp2_with fail
      refine ⟨_, results_tmp rfl _ _ _, ?_⟩
      rw [HRE.out]
      exact rpost_err (HA1.out.next HA4.out) (by decide) (by omega) HR4.out
end
end Go.Proofs.YtahalimekacliaaGreatDoor
namespace Go.Proofs.YtahalimekacliaaGreatDoor
open Go.RowKit Go.Shelf Tx Px
theorem depL_flat {F : Fo} (hw : F.wf = true) (hc : F.count = 1) : depL (F.flat 0) = F.depth := by
  have hs := one_size hc
  have hN := flat_NodeP hw
  have hR : InR (F.flat 0) := fun i x hx => (hN i x hx).2.1
  rw [depL_T hR (by rw [Fo.flat_len]; exact hs), Fo.flat_len, T_flat0 hw hc]
def ParPost (_L : List Tok) (_from_ : Nat) (w : World) (r : Except (Int × Int) (Fo × Nat)) (e : Ending) (w' : World) : Prop :=
  Below w.heap.size w w' ∧ match r with
  | .error (c, p) => e = .returned (.tuple #[.slice none 0 0, .int .i64 0, .agg #[.int .i64 c, .int .i64 p]])
  | .ok (F, i) => ∃ v, e = .returned (.tuple #[v, .int .i64 i, .agg #[.int .i64 0, .int .i64 0]]) ∧ OwnE w.heap.size w' v (F.flat 0)
theorem tok_at {L : List Tok} {a : Option Addr} {cc rb : Nat} {w W0 : World} (hv : Sl tokC 3 w (.slice a L.length cc) L) (hL : L.length ≤ 100000) (hok : ∀ t ∈ L, TokOk t) (hb : Below w.heap.size w W0) (hrb : w.heap.size ≤ rb) : EnvOk W0 rb a cc L := by
  obtain ⟨a', c', h1, hc, hx⟩ := hv.form
  cases h1
  refine ⟨hL, hc, fun W hW i x hi => ?_, hok⟩
  have hB := hW.keeps hb hb.size hrb
  obtain ⟨b, o, rfl, hj⟩ := hx W hB i x hi
  exact ⟨b, o, rfl, by have := hj 0 _ rfl; simpa using this, hj 1 _ rfl, hj 2 _ rfl⟩
end Go.Proofs.YtahalimekacliaaGreatDoor
