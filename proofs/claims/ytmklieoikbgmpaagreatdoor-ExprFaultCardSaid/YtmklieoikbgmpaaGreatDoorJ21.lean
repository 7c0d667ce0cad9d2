/- The program's reader of expressions: where there was a fault: the walk. The reference's reader of expressions: the level of prod: the walk. The reference's reader of expressions: level 6 (cmp): the walk. The reference's reader of expressions: an operand, each level: the walk. The program's reader of expressions: an operand: the walk. Tokens among others; tokens without the last ones: the plain mathematics. Expressions out of texts: the plain mathematics of the laws. The reference's reader of expressions: an expression out of tokens: the walk. The reference's reader of expressions: an expression out of a text: the walk. -/
import Derived.Test.YtmklieoikbgmpaaGreatDoorJ1
import Derived.Test.YtmklieoikbgmpaaGreatDoorJ20
namespace Go.Proofs.YtmklieoikbgmpaaGreatDoor
open Go.RowKit Go.Shelf Tx Px
section
variable {L : List Tok} {a : Option Addr} {cc rb lb pb : Nat} {w0 : World}
set_option maxRecDepth 100000 in
set_option maxHeartbeats 4000000 in
theorem operand_fault (i o c p : Int) (hc : c ≠ 0) (w : World) (hR : RE rb a cc L lb pb w i o c p) :
    Calls Tryz.prog 84 #[.pointer (some ⟨rb, 0, none⟩)] w fun e w' => e = .returned (.slice none 0 0) ∧ Below w.heap.size w w' := by
  have hb : Below w.heap.size w (w.alloc (.cells #[.pointer (some ⟨rb, 0, none⟩)] 69)) := (Below.refl _ _).alloc (Nat.le_refl _) _
  have hbx := (one_cell (Blk.new w #[.pointer (some ⟨rb, 0, none⟩)] 69)).1
  have hok := eok_any i o c p _ _ (hR.below hb)
  rw [decide_eq_false hc] at hok
  have HB := Lib.hid hb
  clear hR hb hc
  go_enter_defers Tryz.func84, Tryz.ntmps84
  go_wp2_with fail
  refine hok.mono ?_
  rintro e w3 ⟨rfl, rfl⟩
  clear hok
  go_wp2_with fail
  exact ⟨_, results_tmp rfl _ _ _, rfl, HB.out⟩
set_option maxRecDepth 100000 in
set_option maxHeartbeats 4000000 in
theorem binary_fault {ms : Nat → Nat} (EX : Hid (EnvX w0 rb a cc L lb pb ms)) (i : Nat) (hi : i ≤ 200000) (o c p : Int) (hc : c ≠ 0) : ∀ (k n : Nat), n + k = 8 → ∀ (w : World), Al rb w0 w → RE rb a cc L lb pb w i o c p →
    Calls Tryz.prog 57 #[.pointer (some ⟨rb, 0, none⟩), .int .i64 (n : Nat)] w fun e w' => e = .returned (.slice none 0 0) ∧ Below w.heap.size w w'
  | 0, n, hn, w, _, hR => by
    obtain rfl : n = 8 := by omega
    have hop := operand_fault i o c p hc w hR
    obtain ⟨c0, c1, c2, c3, c4, c5, c6⟩ := hR.cells
    clear hR hc
    go_enter Tryz.func57, Tryz.ntmps57
    go_wp2_with fail
    refine hop.mono ?_
    rintro e w3 ⟨rfl, hb⟩
    have HB := Lib.hid hb
    clear hop hb
    go_wp2_with fail
    go_ret
    exact ⟨rfl, HB.out⟩
  | k + 1, n, hn, w, hB, hR => by
    have hcall : Calls Tryz.prog 57 #[.pointer (some ⟨rb, 0, none⟩), .int .i64 ((n : Int) + 1)] w fun e w' => e = .returned (.slice none 0 0) ∧ Below w.heap.size w w' := binary_fault EX i hi o c p hc k (n + 1) (by omega) w hB hR
    obtain ⟨c0, c1, c2, c3, c4, c5, c6⟩ := hR.cells
    have hn8 : ((n : Int) == 8) = false := by rw [beq_eq_false_iff_ne]; omega
    have hn9 : (n : Int) < 8 := by omega
    have hn0 : (0 : Int) ≤ (n : Int) := by omega
    have HN : Hid (n < 8) := by show _ < _; omega
    have HR := Lib.hid hR
    have HAB := Lib.hid hB
    have EV : Hid (EnvOk w0 rb a cc L) := EX.out.ev
    have HC := Lib.hid hc
    clear hR hB hn hc
    go_enter Tryz.func57, Tryz.ntmps57
    go_wp2_with fail
    refine hcall.mono ?_
    rintro e w1 ⟨rfl, hb⟩
    have HB1 := Lib.hid hb
    have hA1 : Al rb w0 w1 := HAB.out.then hb
    have HA1 := Lib.hid hA1
    obtain ⟨M0, l0, l1, l2⟩ := EX.out.lv w1 hA1 n HN.out
    have HR1 := Lib.hid (HR.out.below hb)
    obtain ⟨m, hm⟩ : ∃ m, m = ms n := ⟨_, rfl⟩
    rw [← hm] at M0 l0
    obtain ⟨rg, hrg⟩ : ∃ rg, rg = decide (n ≤ 1) := ⟨_, rfl⟩
    obtain ⟨oc, hoc⟩ : ∃ oc, oc = decide (n = 5) := ⟨_, rfl⟩
    rw [← hrg] at l1
    rw [← hoc] at l2
    clear hrg hoc hm hA1 hcall hb c0 c1 c2 c3 c4 c5 c6
    obtain ⟨c0, c1, c2, c3, c4, c5, c6⟩ := HR1.out.cells
    have M1 := Lib.hid M0
    clear M0
    go_wp2_with fail
    obtain ⟨W, hW⟩ : ∃ W, W = w1.alloc (.cells #[.map (some m), .bool rg, .bool oc] 101) := ⟨_, rfl⟩
    have hbl : Below w1.heap.size w1 W := by rw [hW]; exact (Below.refl _ _).alloc (Nat.le_refl _) _
    have hbk : Blk W w1.heap.size #[.map (some m), .bool rg, .bool oc] 101 := by rw [hW]; exact Blk.new w1 _ _
    have hhere := fun q => ehere_any EV i hi o c p (W.drewN q) ((HA1.out.then hbl).drewN q) ((HR1.out.below hbl).drewN q)
    have hsn : hereS c L i = noS := by unfold hereS; rw [if_neg HC.out]
    rw [hsn] at hhere
    have hlk : ∀ q, (Instr.lookup 72 (.map (some m)) (.string noS) true).run Tryz.prog (W.drewN q) = .ok (.tuple #[((look noS (lvl n)).map vI).getD (.int .i64 0), .bool (look noS (lvl n)).isSome]) (W.drewN q) :=
      fun q => ((map_past M1.out hbl).of_block (w' := W.drewN q) rfl).lookup keyText Tryz.underlying72 (z := .int .i64 0) (fun w => by kernel_rfl) noS
    rw [look_noS] at hlk
    simp only [Option.map_none, Option.getD_none, Option.isSome_none] at hlk
    obtain ⟨b0, b1, b2⟩ := tri_cells hbk
    have HBL := Lib.hid hbl
    rw [← hW]
    clear hsn hbk hbl hW c0 c1 c2 c3 c4 c5 c6 l0 l1 l2
    go_loopw [5, 6] (fun av lv wr => av = .slice none 0 0 ∧ lv = .pointer (some ⟨w1.heap.size, 0, none⟩) ∧ wr = W) (fun _ _ _ => 0)
    case atStart => exact ⟨rfl, rfl, rfl⟩
    case round =>
      obtain ⟨rfl, rfl, hwr⟩ := hrel
      subst hwr
      go_wp2_with fail
      go_quiet ((go_at_call 85; exact Calls.quiet_of (hhere _)))
      have HB2 := Lib.hid (below_drawn (Below.refl wr.heap.size wr) nq)
      generalize wr.drewN nq = V at HB2
      clear hhere hlk b0 b1 b2
      go_wp2_with fail
      go_ret
      exact ⟨rfl, below_next HB1.out (below_next HBL.out HB2.out)⟩
theorem whole_fault {ms : Nat → Nat} (EX : Hid (EnvX w0 rb a cc L lb pb ms)) (i : Nat) (hi : i ≤ 200000) (o c p : Int) (hc : c ≠ 0) (w : World) (hB : Al rb w0 w) (hR : RE rb a cc L lb pb w i o c p) :
    Calls Tryz.prog 34 #[.pointer (some ⟨rb, 0, none⟩)] w fun e w' => e = .returned (.slice none 0 0) ∧ Below w.heap.size w w' := by
  have hcall : Calls Tryz.prog 57 #[.pointer (some ⟨rb, 0, none⟩), .int .i64 0] w fun e w' => e = .returned (.slice none 0 0) ∧ Below w.heap.size w w' := binary_fault EX i hi o c p hc 8 0 rfl w hB hR
  clear hB hR hc
  go_enter Tryz.func34, Tryz.ntmps34
  go_wp2_with fail
  refine hcall.mono ?_
  rintro e w1 ⟨rfl, hb⟩
  have HB := Lib.hid hb
  clear hcall hb
  go_wp2_with fail
  go_ret
  exact ⟨rfl, HB.out⟩
end
end Go.Proofs.YtmklieoikbgmpaaGreatDoor
namespace Go.Proofs.YtmklieoikbgmpaaGreatDoor
open Go.RowKit Go.Shelf Tx Px
section
variable {L : List Tok} {a : Option Addr} {cc rb : Nat} {w0 : World}
end
end Go.Proofs.YtmklieoikbgmpaaGreatDoor
namespace Go.Proofs.YtmklieoikbgmpaaGreatDoor
open Go.RowKit Go.Shelf Tx Px
section
variable {L : List Tok} {a : Option Addr} {cc rb : Nat} {w0 : World}
end
end Go.Proofs.YtmklieoikbgmpaaGreatDoor
namespace Go.Proofs.YtmklieoikbgmpaaGreatDoor
open Go.RowKit Go.Shelf Tx Px
section
variable {L : List Tok} {a : Option Addr} {cc rb : Nat} {w0 : World}
theorem operand_cases {p : Orc} {L : List Tok} {I o : Nat} {r : Res} (h : operandS p L I o = some r) :
    (200 ≤ o ∧ r = .error (6, atP L I)) ∨ (o < 200 ∧ L.length ≤ I ∧ r = .error (5, atP L I)) ∨ (o < 200 ∧ ∃ x, L[I]? = some x ∧
      ((x.k = 2 ∧ one (node 1 (Lx.val x.t.data.toList) noS .no) (I + 1) = some r) ∨ (x.k = 1 ∧ namedS p L x.t I (o + 1) = some r) ∨ ((x.k = 3 ∨ x.k = 4) ∧ signS p L x.t I o = some r) ∨ ((x.k ≠ 1 ∧ x.k ≠ 2 ∧ x.k ≠ 3 ∧ x.k ≠ 4) ∧ errAt L 5 I = some r))) := by
  unfold operandS at h
  split at h
  · rename_i h1; exact Or.inl ⟨h1, (Option.some.inj h).symm⟩
  rename_i h1
  right
  split at h
  · rename_i h2; exact Or.inl ⟨by omega, List.getElem?_eq_none_iff.1 h2, (Option.some.inj h).symm⟩
  rename_i x hx
  refine Or.inr ⟨by omega, x, hx, ?_⟩
  split at h
  · rename_i h2; exact Or.inl ⟨h2, h⟩
  rename_i h2
  split at h
  · rename_i h3; exact Or.inr (Or.inl ⟨h3, by unfold namedS; exact h⟩)
  rename_i h3
  split at h
  · rename_i h4; exact Or.inr (Or.inr (Or.inl ⟨h4, h⟩))
  · rename_i h4; exact Or.inr (Or.inr (Or.inr ⟨by omega, h⟩))
theorem sign_cases {p : Orc} {L : List Tok} {s : ByteArray} {I o : Nat} {r : Res} (h : signS p L s I o = some r) :
    (preAt s = some 25 ∧ withinS p L I (o + 1) = some r) ∨ (∃ op, preAt s = some op ∧ op ≠ 25 ∧ (thenE (p (.bin 8) (I + 1) (o + 1)) fun a i => one (node op 0 noS a) i) = some r) ∨
    (s = ⟨#[116, 114, 117, 101]⟩ ∧ one (node 2 1 noS .no) (I + 1) = some r) ∨ (s = ⟨#[102, 97, 108, 115, 101]⟩ ∧ one (node 2 0 noS .no) (I + 1) = some r) ∨
    (s = ⟨#[40]⟩ ∧ (thenE (p (.bin 0) (I + 1) (o + 1)) fun a i => needT L tRpar i fun i => one a i) = some r) ∨ (s = ⟨#[105, 102]⟩ ∧ choiceS p L (I + 1) (o + 1) = some r) ∨
    (preAt s = none ∧ (s ≠ ⟨#[116, 114, 117, 101]⟩ ∧ s ≠ ⟨#[102, 97, 108, 115, 101]⟩ ∧ s ≠ ⟨#[40]⟩ ∧ s ≠ ⟨#[105, 102]⟩) ∧ errAt L 5 I = some r) := by
  unfold signS at h
  split at h
  · rename_i op hop
    split at h
    · rename_i h25; subst h25; exact Or.inl ⟨hop, by unfold withinS; exact h⟩
    · rename_i h25; exact Or.inr (Or.inl ⟨op, hop, h25, h⟩)
  · rename_i hop
    right; right
    split at h
    · rename_i h1; exact Or.inl ⟨h1, h⟩
    rename_i h1; right
    split at h
    · rename_i h2; exact Or.inl ⟨h2, h⟩
    rename_i h2; right
    split at h
    · rename_i h3; exact Or.inl ⟨h3, h⟩
    rename_i h3; right
    split at h
    · rename_i h4; exact Or.inl ⟨h4, by unfold choiceS; exact h⟩
    rename_i h4; right
    exact ⟨hop, ⟨h1, h2, h3, h4⟩, h⟩
end
end Go.Proofs.YtmklieoikbgmpaaGreatDoor
namespace Go.Proofs.YtmklieoikbgmpaaGreatDoor
open Go.RowKit Go.Shelf Tx Px
def OnOk (w0 : World) (rb : Nat) (a : Option Addr) (cc : Nat) (L : List Tok) (lb pb : Nat) (f : Nat) : Prop :=
  ∀ (I o : Nat) (r : Res) (w : World), I ≤ L.length → P L f (.bin 8) I o = some r → Al rb w0 w → RE rb a cc L lb pb w I o 0 0 →
    Calls Tryz.prog 84 #[.pointer (some ⟨rb, 0, none⟩)] w (RPost (RE rb a cc L lb pb) rb o w r)
section
variable {L : List Tok} {a : Option Addr} {cc rb lb pb : Nat} {w0 : World}
structure Kp (w0 w : World) (rb : Nat) (xb tb : Nat) (x : Tok) (W : World) : Prop where
  al : Al rb w W
  box : Blk W xb #[.pointer (some ⟨rb, 0, none⟩)] 69
  tok : Blk W tb #[.int .i64 (x.k : Nat), .string x.t, .int .i64 (x.p : Nat)] 39
  xb : w.heap.size ≤ xb
  tb : w.heap.size ≤ tb
  rb : rb < w.heap.size
theorem Kp.next {w : World} {xb tb : Nat} {x : Tok} {W W' : World} (h : Kp w0 w rb xb tb x W) (k : Al rb W W') : Kp w0 w rb xb tb x W' := by
  have h1 := h.xb
  have h2 := h.tb
  have h3 := h.rb
  exact ⟨h.al.next k, k.blk h.box (by omega), k.blk h.tok (by omega), h1, h2, h3⟩
theorem Kp.cells {w : World} {xb tb : Nat} {x : Tok} {W : World} (h : Kp w0 w rb xb tb x W) : W.cell? ⟨xb, 0, none⟩ = some (.pointer (some ⟨rb, 0, none⟩)) ∧ W.cell? ⟨tb, 0, none⟩ = some (.int .i64 (x.k : Nat)) ∧ W.cell? ⟨tb, 1, none⟩ = some (.string x.t) :=
  ⟨(one_cell h.box).1, (tri_cells h.tok).1, (tri_cells h.tok).2.1⟩
theorem door_ok {w W : World} {xb tb : Nat} {x : Tok} {o i : Nat} {F : Fo} {v : Value} (hk : Kp w0 w rb xb tb x W) (hR : RE rb a cc L lb pb W (i : Nat) ((o + 1 : Nat) : Int) 0 0) (hv : OwnE w.heap.size W v (F.flat 0)) :
    RPost (RE rb a cc L lb pb) rb o w (.ok ([F], i)) (.returned v) (W.setCell ⟨rb, 2, none⟩ (.int .i64 (((o + 1 : Nat) : Int) - 1))) := by
  have h := hR.setO (((o + 1 : Nat) : Int) - 1)
  have e : (((o + 1 : Nat) : Int) - 1) = (o : Int) := by omega
  refine rpost_ok (hk.al.set _ _) (((Al.refl rb W).set 2 _).ownE hv hk.rb) ?_
  rw [e] at h ⊢; exact h
theorem door_err {w W : World} {xb tb : Nat} {x : Tok} {o i : Nat} {c p : Int} {ad : Option Addr} {n k : Nat} (hk : Kp w0 w rb xb tb x W) (hR : RE rb a cc L lb pb W (i : Nat) ((o + 1 : Nat) : Int) c p) (hc : c ≠ 0) (hi : i ≤ 200000) :
    RPost (RE rb a cc L lb pb) rb o w (.error (c, p)) (.returned (.slice ad n k)) (W.setCell ⟨rb, 2, none⟩ (.int .i64 (((o + 1 : Nat) : Int) - 1))) := by
  have h := hR.setO (((o + 1 : Nat) : Int) - 1)
  have e : (((o + 1 : Nat) : Int) - 1) = (o : Int) := by omega
  refine rpost_err (hk.al.set _ _) hc hi ?_
  rw [e] at h ⊢; exact h
theorem number_good {lv pm : Value} (EV : Hid (EnvOk w0 rb a cc L)) (I : Nat) (hI : I ≤ 200000) (o p : Int) (x : Tok) (hx : L[I]? = some x) (hk : x.k = 2) (hv : Lx.val x.t.data.toList ≤ 1000) (w : World) (hB : Al rb w0 w) (hR : Re w rb (.slice a L.length cc) I o 0 p lv pm) :
    Calls Tryz.prog 111 #[.pointer (some ⟨rb, 0, none⟩)] w fun e w' => Al rb w w' ∧ e = .returned (.int .i64 (Lx.val x.t.data.toList : Nat)) ∧ Re w' rb (.slice a L.length cc) ((I : Int) + 1) o 0 p lv pm :=
  (number_num EV I hI o p x hx hk w hB hR).mono fun e w' ⟨h1, h2⟩ => by
    rcases h2 with ⟨_, h3, h4⟩ | ⟨h3, _⟩
    · exact ⟨h1, h3, h4⟩
    · omega
theorem number_bad {lv pm : Value} (EV : Hid (EnvOk w0 rb a cc L)) (I : Nat) (hI : I ≤ 200000) (o p : Int) (hu : ∀ u, L[I]? = some u → ¬ (u.k = 2 ∧ Lx.val u.t.data.toList ≤ 1000)) (w : World) (hB : Al rb w0 w) (hR : Re w rb (.slice a L.length cc) I o 0 p lv pm) :
    Calls Tryz.prog 111 #[.pointer (some ⟨rb, 0, none⟩)] w fun e w' => Al rb w w' ∧ e = .returned (.int .i64 0) ∧ Re w' rb (.slice a L.length cc) I o 5 (atP L I) lv pm := by
  by_cases h : ∃ x, L[I]? = some x ∧ x.k = 2
  · obtain ⟨x, hx, hk⟩ := h
    refine (number_num EV I hI o p x hx hk w hB hR).mono fun e w' ⟨h1, h2⟩ => ?_
    rcases h2 with ⟨h3, _⟩ | ⟨_, h3, h4⟩
    · exact absurd ⟨hk, h3⟩ (hu x hx)
    · exact ⟨h1, h3, h4⟩
  · exact number_no EV I hI o p (fun x hx hk => h ⟨x, hx, hk⟩) w hB hR
theorem kids_un {op n : Int} {s : ByteArray} (h : op = 4 ∨ op = 5 ∨ (21 ≤ op ∧ op ≤ 25)) : (kids (leaf op n s)).length = 1 := by
  rw [kids_leaf, if_neg (by omega), if_neg (by omega), if_neg (by omega), if_neg (by omega), if_pos (by omega)]
theorem eleaf (op n : Int) (s : ByteArray) (h : op = 1 ∨ op = 2 ∨ op = 3) (I o p : Int) (tv : Value) {lv pm : Value} (w : World) (hR : Re w rb tv I o 0 p lv pm) :
    Calls Tryz.prog 86 #[.pointer (some ⟨rb, 0, none⟩), .int .i64 op, .int .i64 n, .string s, .slice none 0 0] w fun r w' => ∃ v', r = .returned v' ∧ OwnE w.heap.size w' v' ((node op n s .no).flat 0) ∧ Below w.heap.size w w' := by
  have hj := ejoin_ok I o p tv op n s [] (.slice none 0 0) w hR Sg.nil_ (fun F hF => by simp at hF) (by simp [cat, Fo.size]) (by omega) (fun _ => by
    rw [kids_leaf, if_neg (by omega), if_neg (by omega), if_neg (by omega), if_neg (by omega), if_neg (by omega)]; rfl)
  rw [join_nil op n s (by omega)] at hj
  exact hj
set_option maxRecDepth 100000 in
set_option maxHeartbeats 16000000 in
theorem operand_early {ms : Nat → Nat} (EX : Hid (EnvX w0 rb a cc L lb pb ms)) (I o : Nat) (r : Res) (w : World) (hI : I ≤ L.length) (hcs : (200 ≤ o ∧ r = .error (6, atP L I)) ∨ (o < 200 ∧ L.length ≤ I ∧ r = .error (5, atP L I))) (hB : Al rb w0 w) (hR : RE rb a cc L lb pb w I o 0 0) :
    Calls Tryz.prog 84 #[.pointer (some ⟨rb, 0, none⟩)] w (RPost (RE rb a cc L lb pb) rb o w r) := by
  have hL := EX.out.ev.len
  have EV : Hid (EnvOk w0 rb a cc L) := EX.out.ev
  have hlt := hR.lt
  obtain ⟨xb, hxb⟩ : ∃ xb, xb = w.heap.size := ⟨_, rfl⟩
  have HXB := Lib.hid hxb
  obtain ⟨W0, hW0⟩ : ∃ W0, W0 = w.alloc (.cells #[.pointer (some ⟨rb, 0, none⟩)] 69) := ⟨_, rfl⟩
  have hb0 : Below w.heap.size w W0 := by rw [hW0]; exact (Below.refl _ _).alloc (Nat.le_refl _) _
  have hbx : Blk W0 xb #[.pointer (some ⟨rb, 0, none⟩)] 69 := by rw [hW0, hxb]; exact Blk.new w _ _
  have hR0 := hR.below hb0
  have hA0 : Al rb w W0 := Al.of hb0
  have hok := eok_any I o 0 0 _ _ hR0
  have HW0 := Lib.hid hW0
  have HB := Lib.hid hB
  have HC := Lib.hid hcs
  have HBX := Lib.hid hbx
  have HR0 := Lib.hid hR0
  have HA0 := Lib.hid hA0
  have hxr : xb ≠ rb := by omega
  rw [hxb.symm] at hlt
  clear hcs hB hR hb0 hR0 hA0 hxb hW0
  obtain ⟨c0, c1, c2, c3, c4, c5, c6⟩ := HR0.out.cells
  obtain ⟨f0, f1, f2, f3, f4⟩ := HR0.out.free
  have b0 := (one_cell hbx).1
  clear hbx
  have hmf : ∀ (fn : Fn) (first cap : Array Value) (w : World), (Instr.makeFunc fn first cap).run Tryz.prog w = .ok (.func fn first cap) w := fun _ _ _ _ => rfl
  go_enter_defers Tryz.func84, Tryz.ntmps84
  go_wp2_with fail
  rw [← HXB.out, ← HW0.out]
  refine hok.mono ?_
  rintro e w3 ⟨rfl, rfl⟩
  clear hok
  by_cases h200 : 200 ≤ o
  · have hf := efail_yes EV I (by omega) o 0 6 w3 (HB.out.next HA0.out) HR0.out
    have ho1 : (200 : Int) ≤ (o : Int) := by omega
    have HRE : Hid (r = .error (6, atP L I)) := by
      rcases HC.out with ⟨_, h⟩ | ⟨h, _⟩
      · exact h
      · omega
    clear HC
    go_wp2_with fail
    refine hf.mono ?_
    rintro e w4 ⟨rfl, hR4, hA4⟩
    have HR4 := Lib.hid hR4
    have HA4 := Lib.hid hA4
    clear hf hR4 hA4 c0 c1 c2 c3 c4 c5 c6 f0 f1 f2 f3 f4 b0
    go_wp2_with fail
    refine ⟨_, results_tmp rfl _ _ _, ?_⟩
    rw [HRE.out]
    exact rpost_err (HA0.out.next HA4.out) (by decide) (by omega) HR4.out
  · have ho1 : (o : Int) < 200 := by omega
    have hlen : L.length ≤ I := by
      rcases HC.out with ⟨h, _⟩ | ⟨_, h, _⟩
      · omega
      · exact h
    · have hf := fun q => efail_yes EV I (by omega) o 0 5 (w3.drewN q) ((HB.out.next HA0.out).drewN q) (HR0.out.drewN q)
      have hl1 : (L.length : Int) ≤ (I : Int) := by omega
      have hd1 : decide (L.length ≤ I) = true := by simp; omega
      have HRE : Hid (r = .error (5, atP L I)) := by
        rcases HC.out with ⟨h, _⟩ | ⟨_, _, h⟩
        · omega
        · exact h
      clear HC
      go_wp2_with fail
      go_quiet (fail)
      have hf2 := hf nq
      have HA1 : Hid (Al rb w (w3.drewN nq)) := HA0.out.drewN nq
      have b1 : (w3.drewN nq).cell? ⟨xb, 0, none⟩ = some (.pointer (some ⟨rb, 0, none⟩)) := b0
      clear hf
      generalize w3.drewN nq = W at *
      clear c0 c1 c2 c3 c4 c5 c6 f0 f1 f2 f3 f4 b0
      go_wp2_with fail
      refine hf2.mono ?_
      rintro e w4 ⟨rfl, hR4, hA4⟩
      have HR4 := Lib.hid hR4
      have HA4 := Lib.hid hA4
      clear hf2 hR4 hA4
      go_wp2_with fail
      refine ⟨_, results_tmp rfl _ _ _, ?_⟩
      rw [HRE.out]
      exact rpost_err (HA1.out.next HA4.out) (by decide) (by omega) HR4.out
end
end Go.Proofs.YtmklieoikbgmpaaGreatDoor
namespace Go.Proofs.YtmklieoikbgmpaaGreatDoor
namespace Px
open Tx
theorem ok_lt {L : List Tok} (hL : ∀ t ∈ L, TokOk t) {f n I o i : Nat} {a : Fo} (hI : I ≤ L.length) (h : P L f (.bin n) I o = some (.ok ([a], i))) : I < i ∧ i ≤ L.length ∧ Good a := by
  obtain ⟨g1, g2, g3, g4⟩ := (P_ok hL f).bin hI h
  have := good_size g1
  exact ⟨by omega, g3, g1⟩
structure Emb (L L' : List Tok) (d : Nat) : Prop where
  same : ∀ i t, L[i]? = some t → ∃ t', L'[d + i]? = some t' ∧ t'.k = t.k ∧ t'.t = t.t
  stop : ∀ n, (hereT L' (d + L.length)).bind (opAt n) = none
  par : hereT L' (d + L.length) ≠ some tLpar
theorem Emb.here {L L' : List Tok} {d : Nat} (h : Emb L L' d) {i : Nat} (hi : i < L.length) : hereT L' (d + i) = hereT L i := by
  obtain ⟨t', h1, h2, h3⟩ := h.same i _ (List.getElem?_eq_getElem hi)
  unfold hereT
  rw [h1, List.getElem?_eq_getElem hi]
  simp only [h2, h3]
theorem Emb.isT {L L' : List Tok} {d : Nat} (h : Emb L L' d) {i : Nat} (hi : i < L.length) (s : ByteArray) : isT L' (d + i) s = isT L i s := by
  unfold Px.isT; rw [h.here hi]
def EmbR (k d : Nat) (l : List Fo) (i : Nat) (r : Option Res) : Prop := r = some (.ok (l, d + i)) ∨ (0 < k ∧ ∃ a, r = some (.error (6, a)))
def EmbO (L : List Tok) (k d : Nat) (p p' : Orc) : Prop := ∀ g I o l i, I ≤ L.length → (∀ F ∈ g.have_, Good F) → p g I o = some (.ok (l, i)) → EmbR k d l i (p' g (d + I) (o + k))
theorem EmbR.then_ {k d i j : Nat} {a : Fo} {l : List Fo} {r : Option Res} {f : Fo → Nat → Option Res} (h : EmbR k d [a] i r) (hf : EmbR k d l j (f a (d + i))) : EmbR k d l j (thenE r f) := by
  rcases h with rfl | ⟨hk, e, rfl⟩
  · exact hf
  · exact Or.inr ⟨hk, e, rfl⟩
theorem EmbR.one_ {k d i : Nat} (a : Fo) : EmbR k d [a] i (one a (d + i)) := Or.inl rfl
theorem then_ok {r : Option Res} {f : Fo → Nat → Option Res} {l : List Fo} {j : Nat} (h : thenE r f = some (.ok (l, j))) : ∃ a i, r = some (.ok ([a], i)) ∧ f a i = some (.ok (l, j)) := by
  rcases thenE_some h with ⟨e, _, h1⟩ | h
  · cases h1
  · exact h
theorem need_ok {L : List Tok} {s : ByteArray} {i : Nat} {f : Nat → Option Res} {l : List Fo} {j : Nat} (h : needT L s i f = some (.ok (l, j))) : isT L i s = true ∧ f (i + 1) = some (.ok (l, j)) := by
  rcases needT_some h with h1 | h1
  · cases h1
  · exact h1
theorem one_ok {a : Fo} {i : Nat} {l : List Fo} {j : Nat} (h : one a i = some (.ok (l, j))) : l = [a] ∧ j = i := by
  cases h; exact ⟨rfl, rfl⟩
theorem Emb.need {L L' : List Tok} {d k : Nat} (h : Emb L L' d) {s : ByteArray} {i j : Nat} {l : List Fo} {f : Nat → Option Res} (hi : Px.isT L i s = true) (hf : EmbR k d l j (f (d + (i + 1)))) : EmbR k d l j (needT L' s (d + i) f) := by
  unfold needT
  rw [h.isT (isT_lt hi), hi, if_pos rfl]; exact hf
theorem sign_emb {L L' : List Tok} {d k f : Nat} (h : Emb L L' d) {p' : Orc} (hp : EmbO L k d (P L f) p') {s : ByteArray} {I o i : Nat} {l : List Fo} (hI : I < L.length) (hq : signS (P L f) L s I o = some (.ok (l, i))) : EmbR k d l i (signS p' L' s (d + I) (o + k)) := by
  have sub : ∀ {n I' o' i' : Nat} {a : Fo}, I' ≤ L.length → P L f (.bin n) I' o' = some (.ok ([a], i')) → EmbR k d [a] i' (p' (.bin n) (d + I') (o' + k)) := fun {n I' o' i' a} h1 h2 => hp (.bin n) I' o' _ _ h1 (fun F hF => by simp [Tag.have_] at hF) h2
  have ho : o + k + 1 = o + 1 + k := by omega
  have hd : ∀ m, d + I + m = d + (I + m) := fun m => by omega
  unfold signS at hq ⊢
  split at hq
  · rename_i op hop
    split at hq
    · rename_i h25
      rw [if_pos h25]
      split at hq
      · rename_i u hu
        obtain ⟨u', h1, h2, h3⟩ := h.same _ u hu
        have hu2 := (List.getElem?_eq_some_iff.1 hu).1
        rw [hd 1, h1]
        simp only [h2, h3]
        split at hq
        · rename_i h4
          rw [if_pos h4]
          obtain ⟨a, j, e1, e2⟩ := then_ok hq
          obtain ⟨rfl, rfl⟩ := one_ok e2
          rw [hd 2, ho]
          exact (sub (by omega) e1).then_ (EmbR.one_ _)
        · cases hq
      · cases hq
    · rename_i h25
      rw [if_neg h25]
      obtain ⟨a, j, e1, e2⟩ := then_ok hq
      obtain ⟨rfl, rfl⟩ := one_ok e2
      rw [hd 1, ho]
      exact (sub (by omega) e1).then_ (EmbR.one_ _)
  · split at hq
    · rename_i h1; rw [if_pos h1]; obtain ⟨rfl, rfl⟩ := one_ok hq; exact EmbR.one_ _
    rename_i h1; rw [if_neg h1]
    split at hq
    · rename_i h1; rw [if_pos h1]; obtain ⟨rfl, rfl⟩ := one_ok hq; exact EmbR.one_ _
    rename_i h1; rw [if_neg h1]
    split at hq
    · rename_i h1; rw [if_pos h1]
      obtain ⟨a, j, e1, e2⟩ := then_ok hq
      obtain ⟨e3, e4⟩ := need_ok e2
      obtain ⟨rfl, rfl⟩ := one_ok e4
      rw [hd 1, ho]
      exact (sub (by omega) e1).then_ (h.need e3 (EmbR.one_ _))
    rename_i h1; rw [if_neg h1]
    split at hq
    · rename_i h1; rw [if_pos h1]
      obtain ⟨a, j, e1, e2⟩ := then_ok hq
      obtain ⟨e3, e4⟩ := need_ok e2
      obtain ⟨b, j2, e5, e6⟩ := then_ok e4
      obtain ⟨e7, e8⟩ := need_ok e6
      obtain ⟨c, j3, e9, e10⟩ := then_ok e8
      obtain ⟨rfl, rfl⟩ := one_ok e10
      have l1 := isT_lt e3
      have l2 := isT_lt e7
      rw [hd 1, ho]
      exact (sub (by omega) e1).then_ (h.need e3 ((sub (by omega) e5).then_ (h.need e7 ((sub (by omega) e9).then_ (EmbR.one_ _)))))
    · cases hq
theorem args_lt {L : List Tok} (hL : ∀ t ∈ L, TokOk t) {f I o i : Nat} {l0 l : List Fo} (hI : I ≤ L.length) (h : P L f (.args l0) I o = some (.ok (l, i))) : I < L.length := by
  cases f with
  | zero => cases h
  | succ f =>
    simp only [P, stepP] at h
    obtain ⟨a, j, e1, e2⟩ := then_ok h
    have := ok_lt hL hI e1
    omega
theorem step_emb {L L' : List Tok} (hL : ∀ t ∈ L, TokOk t) {d k f : Nat} (h : Emb L L' d) {p' : Orc} (hp : EmbO L k d (P L f) p') : EmbO L k d (stepP L (P L f)) (stepP L' p') := by
  intro g I o l i hI hG hq
  have sub : ∀ {n I' o' i' : Nat} {a : Fo}, I' ≤ L.length → P L f (.bin n) I' o' = some (.ok ([a], i')) → EmbR k d [a] i' (p' (.bin n) (d + I') (o' + k)) := fun {n I' o' i' a} h1 h2 => hp (.bin n) I' o' _ _ h1 (fun F hF => by simp [Tag.have_] at hF) h2
  cases g with
  | bin n =>
    simp only [stepP] at hq ⊢
    split at hq
    · rename_i hn
      rw [if_pos hn]
      obtain ⟨a, j, e1, e2⟩ := then_ok hq
      obtain ⟨k1, k2, k3⟩ := ok_lt hL hI e1
      exact (sub hI e1).then_ (hp (.loop n a) j o _ _ k2 (fun F hF => by simp [Tag.have_] at hF; rw [hF]; exact k3) e2)
    · rename_i hn
      rw [if_neg hn]
      unfold operandS at hq ⊢
      split at hq
      · cases hq
      rename_i h200
      by_cases h201 : 200 ≤ o + k
      · rw [if_pos h201]; exact Or.inr ⟨by omega, _, rfl⟩
      rw [if_neg h201]
      split at hq
      · cases hq
      rename_i t ht
      have hlt := (List.getElem?_eq_some_iff.1 ht).1
      obtain ⟨t', h1, h2, h3⟩ := h.same I t ht
      rw [h1]
      simp only [h2, h3]
      split at hq
      · rename_i h4; rw [if_pos h4]; obtain ⟨rfl, rfl⟩ := one_ok hq; exact EmbR.one_ _
      rename_i h4; rw [if_neg h4]
      split at hq
      · rename_i h5; rw [if_pos h5]
        split at hq
        · rename_i h6
          have l1 := isT_lt h6
          have e6 : isT L' (d + I + 1) tLpar = true := by rw [show d + I + 1 = d + (I + 1) by omega, h.isT l1]; exact h6
          rw [if_pos e6]
          split at hq
          · rename_i h7
            have l2 := isT_lt h7
            have e7 : isT L' (d + I + 2) tRpar = true := by rw [show d + I + 2 = d + (I + 2) by omega, h.isT l2]; exact h7
            rw [if_pos e7]
            obtain ⟨rfl, rfl⟩ := one_ok hq
            exact EmbR.one_ _
          · rename_i h7
            cases hr : P L f (.args []) (I + 2) (o + 1) with
            | none => rw [hr] at hq; cases hq
            | some x =>
              cases x with
              | error e => rw [hr] at hq; cases hq
              | ok y =>
                obtain ⟨m, j⟩ := y
                rw [hr] at hq
                obtain ⟨rfl, rfl⟩ := one_ok hq
                have l2 := args_lt hL (by omega) hr
                have e7 : ¬ isT L' (d + I + 2) tRpar = true := by rw [show d + I + 2 = d + (I + 2) by omega, h.isT l2]; exact h7
                rw [if_neg e7]
                have := hp (.args []) (I + 2) (o + 1) _ _ (by omega) (fun F hF => by simp [Tag.have_] at hF) hr
                rw [show d + I + 2 = d + (I + 2) by omega, show o + k + 1 = o + 1 + k by omega]
                rcases this with h8 | ⟨h8, a, h9⟩
                · rw [h8]; exact EmbR.one_ _
                · rw [h9]; exact Or.inr ⟨h8, a, rfl⟩
        · rename_i h6
          have e6 : ¬ isT L' (d + I + 1) tLpar = true := by
            rw [show d + I + 1 = d + (I + 1) by omega]
            by_cases l1 : I + 1 < L.length
            · rw [h.isT l1]; exact h6
            · have : I + 1 = L.length := by omega
              rw [this]
              unfold isT
              simpa using h.par
          rw [if_neg e6]
          obtain ⟨rfl, rfl⟩ := one_ok hq
          exact EmbR.one_ _
      rename_i h5; rw [if_neg h5]
      split at hq
      · rename_i h6; rw [if_pos h6]
        exact sign_emb h hp hlt hq
      · cases hq
  | loop n a =>
    simp only [stepP] at hq ⊢
    by_cases hlt : I < L.length
    · rw [h.here hlt]
      split at hq
      · rename_i h1
        obtain ⟨rfl, rfl⟩ := one_ok hq
        exact EmbR.one_ _
      · rename_i op sw h1
        have ho := opAt_is (Option.bind_eq_some_iff.1 h1).choose_spec.2
        obtain ⟨b, j, e1, e2⟩ := then_ok hq
        obtain ⟨k1, k2, k3⟩ := ok_lt hL (by omega) e1
        refine (sub (by omega) e1).then_ ?_
        split at e2
        · rename_i h2
          obtain ⟨rfl, rfl⟩ := one_ok e2
          rw [if_pos h2]; exact EmbR.one_ _
        · rename_i h2
          rw [if_neg h2]
          refine hp _ j o _ _ k2 (fun F hF => ?_) e2
          have ha := hG a (by simp [Tag.have_])
          simp only [Tag.have_, List.mem_singleton] at hF
          rw [hF]
          cases sw
          · exact good_two ho ha k3
          · exact good_two ho k3 ha
    · have hI2 : I = L.length := by omega
      have hno : hereT L I = none := by unfold hereT; rw [List.getElem?_eq_none (by omega)]
      rw [hno] at hq
      obtain ⟨rfl, rfl⟩ := one_ok hq
      rw [hI2, h.stop n]; exact EmbR.one_ _
  | args l0 =>
    simp only [stepP] at hq ⊢
    obtain ⟨a, j, e1, e2⟩ := then_ok hq
    obtain ⟨k1, k2, k3⟩ := ok_lt hL hI e1
    refine (sub hI e1).then_ ?_
    split at e2
    · rename_i h1
      have e3 : isT L' (d + j) tRpar = true := by rw [h.isT (isT_lt h1)]; exact h1
      rw [if_pos e3]
      cases e2
      exact Or.inl rfl
    rename_i h1
    split at e2
    · rename_i h2
      have l2 := isT_lt h2
      have e3 : ¬ isT L' (d + j) tRpar = true := by rw [h.isT l2]; exact h1
      have e4 : isT L' (d + j) tComma = true := by rw [h.isT l2]; exact h2
      rw [if_neg e3, if_pos e4]
      refine hp (.args (l0 ++ [a])) (j + 1) o _ _ (by omega) (fun F hF => ?_) e2
      simp only [Tag.have_] at hF hG
      rcases List.mem_append.1 hF with hF | hF
      · exact hG F hF
      · rw [List.mem_singleton.1 hF]; exact k3
    · cases e2
theorem P_emb {L L' : List Tok} (hL : ∀ t ∈ L, TokOk t) {d : Nat} (h : Emb L L' d) (k : Nat) : ∀ f, EmbO L k d (P L f) (P L' f)
  | 0 => fun _ _ _ _ _ _ _ h => by cases h
  | f + 1 => step_emb hL h (P_emb hL h k f)
theorem size_app_le {a b a' b' : Fo} (h1 : a'.size ≤ a.size) (h2 : b'.size ≤ b.size) (sw : Bool) (op : Int) : (node op 0 noS (if sw then b'.app a' else a'.app b')).size ≤ (node op 0 noS (if sw then b.app a else a.app b)).size := by
  cases sw <;> simp [node, Fo.size, Fo.size_app] <;> omega
def LbO (p : Orc) : Prop := ∀ g I o l i, p g I o = some (.ok (l, i)) → I ≤ i ∧ (cat g.have_).size + g.have_.length ≤ (cat l).size + l.length
theorem need_i {L : List Tok} {s : ByteArray} {i : Nat} {f : Nat → Option Res} {l : List Fo} {j : Nat} (h : needT L s i f = some (.ok (l, j))) : f (i + 1) = some (.ok (l, j)) := (need_ok h).2
theorem step_lb {L : List Tok} {p : Orc} (h : LbO p) : LbO (stepP L p) := by
  intro g I o l i hq
  cases g with
  | bin n =>
    simp only [Tag.have_, cat, Fo.size, List.length_nil]
    refine ⟨?_, by omega⟩
    simp only [stepP] at hq
    split at hq
    · obtain ⟨a, j, e1, e2⟩ := then_ok hq
      have := (h _ _ _ _ _ e1).1
      have := (h _ _ _ _ _ e2).1
      omega
    · unfold operandS at hq
      split at hq
      · cases hq
      split at hq
      · cases hq
      split at hq
      · obtain ⟨rfl, rfl⟩ := one_ok hq; omega
      split at hq
      · split at hq
        · split at hq
          · obtain ⟨rfl, rfl⟩ := one_ok hq; omega
          · unfold callS at hq
            split at hq
            · cases hq
            · cases hq
            · rename_i m j hr
              have := (h _ _ _ _ _ hr).1
              obtain ⟨rfl, rfl⟩ := one_ok hq; omega
        · obtain ⟨rfl, rfl⟩ := one_ok hq; omega
      split at hq
      · unfold signS at hq
        split at hq
        · split at hq
          · split at hq
            · split at hq
              · obtain ⟨a, j, e1, e2⟩ := then_ok hq
                have := (h _ _ _ _ _ e1).1
                obtain ⟨rfl, rfl⟩ := one_ok e2; omega
              · cases hq
            · cases hq
          · obtain ⟨a, j, e1, e2⟩ := then_ok hq
            have := (h _ _ _ _ _ e1).1
            obtain ⟨rfl, rfl⟩ := one_ok e2; omega
        · split at hq
          · obtain ⟨rfl, rfl⟩ := one_ok hq; omega
          split at hq
          · obtain ⟨rfl, rfl⟩ := one_ok hq; omega
          split at hq
          · obtain ⟨a, j, e1, e2⟩ := then_ok hq
            have := (h _ _ _ _ _ e1).1
            obtain ⟨rfl, rfl⟩ := one_ok (need_i e2); omega
          split at hq
          · obtain ⟨a, j, e1, e2⟩ := then_ok hq
            obtain ⟨b, j2, e3, e4⟩ := then_ok (need_i e2)
            obtain ⟨c, j3, e5, e6⟩ := then_ok (need_i e4)
            have := (h _ _ _ _ _ e1).1
            have := (h _ _ _ _ _ e3).1
            have := (h _ _ _ _ _ e5).1
            obtain ⟨rfl, rfl⟩ := one_ok e6; omega
          · cases hq
      · cases hq
  | loop n a =>
    simp only [stepP] at hq
    split at hq
    · obtain ⟨rfl, rfl⟩ := one_ok hq; exact ⟨Nat.le_refl _, Nat.le_refl _⟩
    · rename_i op sw _
      obtain ⟨b, j, e1, e2⟩ := then_ok hq
      have h1 := (h _ _ _ _ _ e1).1
      have hs : a.size ≤ (node op 0 noS (if sw then b.app a else a.app b)).size := by cases sw <;> simp [node, Fo.size, Fo.size_app] <;> omega
      split at e2
      · obtain ⟨rfl, rfl⟩ := one_ok e2
        refine ⟨by omega, ?_⟩
        simp only [Tag.have_, cat, Fo.app_no, List.length_singleton]; omega
      · obtain ⟨h2, h3⟩ := h _ _ _ _ _ e2
        refine ⟨by omega, ?_⟩
        simp only [Tag.have_, cat, Fo.app_no, List.length_singleton] at h3 ⊢; omega
  | args l0 =>
    simp only [stepP] at hq
    obtain ⟨a, j, e1, e2⟩ := then_ok hq
    have h1 := (h _ _ _ _ _ e1).1
    split at e2
    · cases e2
      refine ⟨by omega, ?_⟩
      simp only [Tag.have_, cat_snoc, Fo.size_app, List.length_append, List.length_singleton]; omega
    split at e2
    · obtain ⟨h2, h3⟩ := h _ _ _ _ _ e2
      refine ⟨by omega, ?_⟩
      simp only [Tag.have_, cat_snoc, Fo.size_app, List.length_append, List.length_singleton] at h3 ⊢; omega
    · cases e2
theorem P_lb (L : List Tok) : ∀ f, LbO (P L f)
  | 0 => fun _ _ _ _ _ h => by cases h
  | f + 1 => step_lb (P_lb L f)
structure Pre (L L' : List Tok) (N : Nat) : Prop where
  len : L'.length = N
  same : ∀ i, i < N → L'[i]? = L[i]?
theorem Pre.here {L L' : List Tok} {N : Nat} (h : Pre L L' N) {i : Nat} (hi : i < N) : hereT L' i = hereT L i := by unfold hereT; rw [h.same i hi]
theorem Pre.isT {L L' : List Tok} {N : Nat} (h : Pre L L' N) {i : Nat} (hi : i < N) (s : ByteArray) : Px.isT L' i s = Px.isT L i s := by unfold Px.isT; rw [h.here hi]
theorem Pre.not {L L' : List Tok} {N : Nat} (h : Pre L L' N) {i : Nat} (hi : N ≤ i) (s : ByteArray) : Px.isT L' i s = false := by
  unfold Px.isT hereT; rw [List.getElem?_eq_none (by rw [h.len]; exact hi)]; simp
def PreO (N : Nat) (p' p : Orc) : Prop := ∀ g I o l' i', I ≤ N → p' g I o = some (.ok (l', i')) →
  (i' < N → p g I o = some (.ok (l', i'))) ∧ (N ≤ i' → ∀ l i, p g I o = some (.ok (l, i)) → N ≤ i ∧ (cat l').size + l'.length ≤ (cat l).size + l.length)
theorem pre_eq {N i' : Nat} {l' : List Fo} {r : Option Res} (h : r = some (.ok (l', i'))) : (i' < N → r = some (.ok (l', i'))) ∧ (N ≤ i' → ∀ l i, r = some (.ok (l, i)) → N ≤ i ∧ (cat l').size + l'.length ≤ (cat l).size + l.length) := by
  refine ⟨fun _ => h, fun h1 l i h2 => ?_⟩
  rw [h] at h2; cases h2; exact ⟨h1, Nat.le_refl _⟩
theorem need_pre {L L' : List Tok} {N : Nat} (h : Pre L L' N) {s : ByteArray} {i j : Nat} {f : Nat → Option Res} {l : List Fo} (hq : needT L' s i f = some (.ok (l, j))) : i < N ∧ f (i + 1) = some (.ok (l, j)) ∧ ∀ g : Nat → Option Res, needT L s i g = g (i + 1) := by
  obtain ⟨h1, h2⟩ := need_ok hq
  have hi : i < N := by
    rcases Nat.lt_or_ge i N with hi | hi
    · exact hi
    · rw [h.not hi] at h1; cases h1
  refine ⟨hi, h2, fun g => ?_⟩
  unfold needT; rw [← h.isT hi, h1, if_pos rfl]
theorem bin_lt {L : List Tok} (hL : ∀ t ∈ L, TokOk t) {f n I o i : Nat} {a : Fo} (hI : I ≤ L.length) (h : P L f (.bin n) I o = some (.ok ([a], i))) : I < i ∧ i ≤ L.length := ⟨(ok_lt hL hI h).1, (ok_lt hL hI h).2.1⟩
theorem sign_pre {L L' : List Tok} {N : Nat} (h : Pre L L' N) {p' p : Orc} (hp : PreO N p' p) {s : ByteArray} {I o i' : Nat} {l' : List Fo} (hI : I < N) (hq : signS p' L' s I o = some (.ok (l', i'))) :
    (i' < N → signS p L s I o = some (.ok (l', i'))) ∧ (N ≤ i' → ∀ l i, signS p L s I o = some (.ok (l, i)) → N ≤ i ∧ (cat l').size + l'.length ≤ (cat l).size + l.length) := by
  unfold signS at hq ⊢
  split at hq
  · rename_i op hop
    split at hq
    · rename_i h25
      rw [if_pos h25]
      split at hq
      · rename_i u hu
        have hu2 := (List.getElem?_eq_some_iff.1 hu).1
        rw [h.len] at hu2
        rw [← h.same _ hu2, hu]
        simp only []
        split at hq
        · rename_i h4
          rw [if_pos h4]
          obtain ⟨a, j, e1, e2⟩ := then_ok hq
          obtain ⟨rfl, rfl⟩ := one_ok e2
          obtain ⟨k1, k2⟩ := hp _ _ _ _ _ (by omega) e1
          refine ⟨fun hj => by rw [k1 hj]; rfl, fun hj l i hl => ?_⟩
          obtain ⟨b, m, f1, f2⟩ := then_ok hl
          obtain ⟨rfl, rfl⟩ := one_ok f2
          obtain ⟨k3, k4⟩ := k2 hj _ _ f1
          refine ⟨k3, ?_⟩
          simp only [cat, Fo.app_no, List.length_singleton, node, Fo.size] at k4 ⊢; omega
        · cases hq
      · cases hq
    · rename_i h25
      rw [if_neg h25]
      obtain ⟨a, j, e1, e2⟩ := then_ok hq
      obtain ⟨rfl, rfl⟩ := one_ok e2
      obtain ⟨k1, k2⟩ := hp _ _ _ _ _ (by omega) e1
      refine ⟨fun hj => by rw [k1 hj]; rfl, fun hj l i hl => ?_⟩
      obtain ⟨b, m, f1, f2⟩ := then_ok hl
      obtain ⟨rfl, rfl⟩ := one_ok f2
      obtain ⟨k3, k4⟩ := k2 hj _ _ f1
      refine ⟨k3, ?_⟩
      simp only [cat, Fo.app_no, List.length_singleton, node, Fo.size] at k4 ⊢; omega
  · split at hq
    · rename_i h1; rw [if_pos h1]; exact pre_eq hq
    rename_i h1; rw [if_neg h1]
    split at hq
    · rename_i h1; rw [if_pos h1]; exact pre_eq hq
    rename_i h1; rw [if_neg h1]
    split at hq
    · rename_i h1; rw [if_pos h1]
      obtain ⟨a, j, e1, e2⟩ := then_ok hq
      obtain ⟨hj, e3, e4⟩ := need_pre h e2
      refine pre_eq ?_
      rw [(hp _ _ _ _ _ (by omega) e1).1 hj]
      show needT L tRpar j _ = _
      rw [e4]; exact e3
    rename_i h1; rw [if_neg h1]
    split at hq
    · rename_i h1; rw [if_pos h1]
      obtain ⟨a, j, e1, e2⟩ := then_ok hq
      obtain ⟨hj, e3, e4⟩ := need_pre h e2
      obtain ⟨b, j2, f1, f2⟩ := then_ok e3
      obtain ⟨hj2, f3, f4⟩ := need_pre h f2
      obtain ⟨c, j3, g1, g2⟩ := then_ok f3
      obtain ⟨rfl, rfl⟩ := one_ok g2
      have x1 := (hp _ _ _ _ _ (by omega) e1).1 hj
      have x2 := (hp _ _ _ _ _ (by omega) f1).1 hj2
      obtain ⟨k1, k2⟩ := hp _ _ _ _ _ (by omega) g1
      have key0 : ∀ (a : Fo) (i : Nat) (f : Fo → Nat → Option Res), thenE (some (.ok ([a], i))) f = f a i := fun _ _ _ => rfl
      have key : ∀ K : Fo → Fo → Nat → Option Res, thenE (p (.bin 0) (I + 1) (o + 1)) (fun a i => needT L tThen i fun i => thenE (p (.bin 0) i (o + 1)) fun b i => needT L tElse i fun i => thenE (p (.bin 0) i (o + 1)) fun c i => K (a.app (b.app c)) c i) = thenE (p (.bin 0) (j2 + 1) (o + 1)) fun c i => K (a.app (b.app c)) c i := fun K => by
        rw [x1, key0, e4, x2, key0, f4]
      have key2 := key (fun t _ i => one (node 26 0 noS t) i)
      rw [key2]
      refine ⟨fun hj3 => by rw [k1 hj3]; rfl, fun hj3 l i hl => ?_⟩
      obtain ⟨c2, m, y1, y2⟩ := then_ok hl
      obtain ⟨rfl, rfl⟩ := one_ok y2
      obtain ⟨k3, k4⟩ := k2 hj3 _ _ y1
      refine ⟨k3, ?_⟩
      simp only [cat, Fo.app_no, List.length_singleton, node, Fo.size, Fo.size_app] at k4 ⊢; omega
    · cases hq
theorem step_pre {L L' : List Tok} {N : Nat} (h : Pre L L' N) {p' p : Orc} (hp : PreO N p' p) (hlb : LbO p) (hle : ∀ n I o a i, I ≤ N → p' (.bin n) I o = some (.ok ([a], i)) → i ≤ N) (hlt : ∀ l0 I o l i, I ≤ N → p' (.args l0) I o = some (.ok (l, i)) → I < N)
    (hend : ∀ n a o l i, p' (.loop n a) N o = some (.ok (l, i)) → l = [a] ∧ i = N) : PreO N (stepP L' p') (stepP L p) := by
  intro g I o l' i' hI hq
  cases g with
  | bin n =>
    simp only [stepP] at hq ⊢
    split at hq
    · rename_i hn
      rw [if_pos hn]
      obtain ⟨a, j, e1, e2⟩ := then_ok hq
      have hj := hle _ _ _ _ _ hI e1
      obtain ⟨k1, k2⟩ := hp _ _ _ _ _ hI e1
      obtain ⟨k3, k4⟩ := hp _ _ _ _ _ hj e2
      by_cases hjN : j < N
      · rw [k1 hjN]
        exact ⟨k3, k4⟩
      · obtain rfl : j = N := by omega
        obtain ⟨rfl, rfl⟩ := hend _ _ _ _ _ e2
        refine ⟨fun hi => by omega, fun hi l i hl => ?_⟩
        obtain ⟨b, m, f1, f2⟩ := then_ok hl
        obtain ⟨k5, k6⟩ := k2 (Nat.le_refl _) _ _ f1
        obtain ⟨k7, k8⟩ := hlb _ _ _ _ _ f2
        simp only [Tag.have_, cat, Fo.app_no, List.length_singleton] at k6 k8 ⊢
        exact ⟨by omega, by omega⟩
    · rename_i hn
      rw [if_neg hn]
      unfold operandS at hq ⊢
      split at hq
      · cases hq
      rename_i h200
      rw [if_neg h200]
      split at hq
      · cases hq
      rename_i t ht
      have hlt2 := (List.getElem?_eq_some_iff.1 ht).1
      rw [h.len] at hlt2
      rw [← h.same I hlt2, ht]
      simp only []
      split at hq
      · rename_i h4; rw [if_pos h4]; exact pre_eq hq
      rename_i h4; rw [if_neg h4]
      split at hq
      · rename_i h5; rw [if_pos h5]
        split at hq
        · rename_i h6
          have l1 : I + 1 < N := by
            rcases Nat.lt_or_ge (I + 1) N with h | h'
            · exact h
            · rw [h.not h'] at h6; cases h6
          have e6 : isT L (I + 1) tLpar = true := by rw [← h.isT l1]; exact h6
          rw [if_pos e6]
          split at hq
          · rename_i h7
            have l2 : I + 2 < N := by
              rcases Nat.lt_or_ge (I + 2) N with h | h'
              · exact h
              · rw [h.not h'] at h7; cases h7
            have e7 : isT L (I + 2) tRpar = true := by rw [← h.isT l2]; exact h7
            rw [if_pos e7]; exact pre_eq hq
          · rename_i h7
            cases hr : p' (.args []) (I + 2) (o + 1) with
            | none => rw [hr] at hq; cases hq
            | some x =>
              cases x with
              | error e => rw [hr] at hq; cases hq
              | ok y =>
                obtain ⟨m, j⟩ := y
                rw [hr] at hq
                obtain ⟨rfl, rfl⟩ := one_ok hq
                have l2 := hlt _ _ _ _ _ (by omega) hr
                have e7 : ¬ isT L (I + 2) tRpar = true := by rw [← h.isT l2]; exact h7
                rw [if_neg e7]
                obtain ⟨k1, k2⟩ := hp _ _ _ _ _ (by omega) hr
                refine ⟨fun hj => by rw [k1 hj]; rfl, fun hj l i hl => ?_⟩
                cases hr2 : p (.args []) (I + 2) (o + 1) with
                | none => rw [hr2] at hl; cases hl
                | some x =>
                  cases x with
                  | error e => rw [hr2] at hl; cases hl
                  | ok y =>
                    obtain ⟨m2, j2⟩ := y
                    rw [hr2] at hl
                    obtain ⟨rfl, rfl⟩ := one_ok hl
                    obtain ⟨k3, k4⟩ := k2 hj _ _ hr2
                    refine ⟨k3, ?_⟩
                    simp only [cat, Fo.app_no, List.length_singleton, joinF, if_true, Fo.size, chain_size]; omega
        · rename_i h6
          obtain ⟨rfl, rfl⟩ := one_ok hq
          by_cases l1 : I + 1 < N
          · have e6 : ¬ isT L (I + 1) tLpar = true := by rw [← h.isT l1]; exact h6
            rw [if_neg e6]; exact pre_eq rfl
          · refine ⟨fun hj => absurd hj l1, fun hj l i hl => ?_⟩
            split at hl
            · split at hl
              · obtain ⟨rfl, rfl⟩ := one_ok hl
                exact ⟨by omega, by simp [cat, node, joinF, chain, Fo.size, Fo.app_no]⟩
              · cases hr2 : p (.args []) (I + 2) (o + 1) with
                | none => rw [hr2] at hl; cases hl
                | some x =>
                  cases x with
                  | error e => rw [hr2] at hl; cases hl
                  | ok y =>
                    obtain ⟨m2, j2⟩ := y
                    rw [hr2] at hl
                    obtain ⟨rfl, rfl⟩ := one_ok hl
                    have := (hlb _ _ _ _ _ hr2).1
                    exact ⟨by omega, by simp only [cat, Fo.app_no, List.length_singleton, joinF, if_true, node, Fo.size, chain_size]; omega⟩
            · obtain ⟨rfl, rfl⟩ := one_ok hl
              exact ⟨by omega, Nat.le_refl _⟩
      rename_i h5; rw [if_neg h5]
      split at hq
      · rename_i h6; rw [if_pos h6]
        exact sign_pre h hp hlt2 hq
      · cases hq
  | loop n a =>
    simp only [stepP] at hq ⊢
    by_cases hltI : I < N
    · rw [h.here hltI] at hq
      split at hq
      · exact pre_eq hq
      · rename_i op sw h1
        obtain ⟨b, j, e1, e2⟩ := then_ok hq
        have hj := hle _ _ _ _ _ (by omega) e1
        obtain ⟨k1, k2⟩ := hp _ _ _ _ _ (by omega) e1
        split at e2
        · rename_i h2
          obtain ⟨rfl, rfl⟩ := one_ok e2
          refine ⟨fun hj => by rw [k1 hj]; exact if_pos h2, fun hj l i hl => ?_⟩
          obtain ⟨c, m, f1, f2⟩ := then_ok hl
          rw [if_pos h2] at f2
          obtain ⟨rfl, rfl⟩ := one_ok f2
          obtain ⟨k3, k4⟩ := k2 hj _ _ f1
          refine ⟨k3, ?_⟩
          simp only [cat, Fo.app_no, List.length_singleton] at k4 ⊢
          have := size_app_le (a := a) (a' := a) (b' := b) (b := c) (Nat.le_refl _) (by omega) sw op
          omega
        · rename_i h2
          by_cases hjN : j < N
          · obtain ⟨k3, k4⟩ := hp _ _ _ _ _ hj e2
            rw [k1 hjN]
            have e : ∀ (F : Fo) (i : Nat) (f : Fo → Nat → Option Res), thenE (some (.ok ([F], i))) f = f F i := fun _ _ _ => rfl
            rw [e, if_neg h2]
            exact ⟨k3, k4⟩
          · obtain rfl : j = N := by omega
            obtain ⟨rfl, rfl⟩ := hend _ _ _ _ _ e2
            refine ⟨fun hi => by omega, fun hi l i hl => ?_⟩
            obtain ⟨c, m, f1, f2⟩ := then_ok hl
            rw [if_neg h2] at f2
            obtain ⟨k3, k4⟩ := k2 (Nat.le_refl _) _ _ f1
            obtain ⟨k7, k8⟩ := hlb _ _ _ _ _ f2
            simp only [Tag.have_, cat, Fo.app_no, List.length_singleton] at k4 k8 ⊢
            have := size_app_le (a := a) (a' := a) (b' := b) (b := c) (Nat.le_refl _) (by omega) sw op
            exact ⟨by omega, by omega⟩
    · have hno : hereT L' I = none := by unfold hereT; rw [List.getElem?_eq_none (by rw [h.len]; omega)]
      rw [hno] at hq
      obtain ⟨rfl, rfl⟩ := one_ok hq
      refine ⟨fun hi => by omega, fun hi l i hl => ?_⟩
      have := step_lb (L := L) hlb (.loop n a) i' o l i hl
      exact ⟨by omega, this.2⟩
  | args l0 =>
    simp only [stepP] at hq ⊢
    obtain ⟨a, j, e1, e2⟩ := then_ok hq
    have hj := hle _ _ _ _ _ hI e1
    have hjN : j < N := by
      rcases Nat.lt_or_ge j N with h1 | h1
      · exact h1
      · rw [h.not h1, h.not h1] at e2
        cases e2
    have x1 := (hp _ _ _ _ _ hI e1).1 hjN
    have e : ∀ (F : Fo) (i : Nat) (f : Fo → Nat → Option Res), thenE (some (.ok ([F], i))) f = f F i := fun _ _ _ => rfl
    rw [x1, e, ← h.isT hjN, ← h.isT hjN]
    split at e2
    · rename_i h1; rw [if_pos h1]; exact pre_eq e2
    rename_i h1; rw [if_neg h1]
    split at e2
    · rename_i h2; rw [if_pos h2]; exact hp _ _ _ _ _ (by omega) e2
    · cases e2
theorem P_pre {L L' : List Tok} {N : Nat} (hL : ∀ t ∈ L', TokOk t) (h : Pre L L' N) : ∀ f, PreO N (P L' f) (P L f)
  | 0 => fun _ _ _ _ _ _ h => by cases h
  | f + 1 => step_pre h (P_pre hL h f) (P_lb L f) (fun n I o a i hI hq => by have := (bin_lt hL (by rw [h.len]; exact hI) hq).2; rwa [h.len] at this)
      (fun l0 I o l i hI hq => by have := args_lt hL (by rw [h.len]; exact hI) hq; rwa [h.len] at this)
      (fun n a o l i hq => by
        cases f with
        | zero => cases hq
        | succ f =>
          simp only [P, stepP] at hq
          have hno : hereT L' N = none := by unfold hereT; rw [List.getElem?_eq_none (by rw [h.len]; exact Nat.le_refl _)]
          rw [hno] at hq
          exact one_ok hq)
end Px
end Go.Proofs.YtmklieoikbgmpaaGreatDoor
namespace Go.Proofs.YtmklieoikbgmpaaGreatDoor
namespace Px
open Tx
def tokR (N : Nat) (x : Lx.R) : Tok := ⟨x.k, ⟨x.t.toArray⟩, N - x.m⟩
theorem mem_while {p : UInt8 → Bool} {c : UInt8} : ∀ {l : Lx.Bs}, c ∈ l.takeWhile p → p c = true
  | [], h => by simp at h
  | x :: l, h => by
    rw [List.takeWhile_cons] at h
    split at h
    · rename_i hx
      rcases List.mem_cons.1 h with rfl | h
      · exact hx
      · exact mem_while h
    · simp at h
theorem tok_ok {x : Lx.R} (h : Lx.Is x.k x.t) (N : Nat) : TokOk (tokR N x) := by
  refine ⟨fun hk => ?_, fun hk => ?_⟩
  · have hk : x.k = 2 := hk
    have h1 := h.self
    have e : (tokR N x).t.data.toList = x.t := by simp [tokR]
    have e2 : (tokR N x).t.size = x.t.length := by simp [tokR, ByteArray.size]
    rw [e, e2]
    rw [hk] at h1
    unfold Lx.first at h1
    simp only at h1
    split at h1
    · split at h1
      · cases h1
      · split at h1
        · cases h1
        · split at h1
          · split at h1
            · cases h1
            · cases h1
          · cases h1
    · rename_i hne
      split at h1
      · cases h1
      · rename_i hbig
        injection h1 with _ h2
        have hall : x.t.all Lx.isDig = true := by
          rw [← h2, List.all_eq_true]
          exact fun c hc => mem_while hc
        rw [h2] at hbig hne
        unfold Lx.tooBig at hbig
        simp only [Bool.or_eq_true, decide_eq_true_eq, not_or, Nat.not_lt] at hbig
        exact ⟨hall, hbig.1.2, hbig.1.1, by simpa using hne⟩
  · have e : x.t ≠ [] := h.ne
    intro h2
    have := congrArg (fun b : ByteArray => b.data.toList) h2
    simp [tokR] at this
    exact e this
theorem toks_ok (s : Lx.Bs) (N : Nat) : ∀ t ∈ (Lx.lexS s).1.map (tokR N), TokOk t := by
  intro t ht
  obtain ⟨x, hx, rfl⟩ := List.mem_map.1 ht
  exact tok_ok (Lx.lexS_is s x hx) N
def ErrIn (L : List Tok) (r : Option Res) : Prop := ∀ c p, r = some (.error (c, p)) → (c = 5 ∨ c = 6) ∧ ∃ i, p = atP L i
theorem ErrIn.at_ {L : List Tok} {c : Int} {i : Nat} (h : c = 5 ∨ c = 6) : ErrIn L (errAt L c i) := by
  intro c' p e
  unfold errAt at e
  cases e; exact ⟨h, i, rfl⟩
theorem ErrIn.one_ {L : List Tok} {F : Fo} {i : Nat} : ErrIn L (one F i) := by
  intro c p e; unfold one at e; cases e
theorem ErrIn.then_ {L : List Tok} {r : Option Res} {f : Fo → Nat → Option Res} (h : ErrIn L r) (hf : ∀ a i, ErrIn L (f a i)) : ErrIn L (thenE r f) := by
  intro c p e
  rcases thenE_some e with ⟨e', h1, h2⟩ | ⟨a, i, _, h2⟩
  · cases h2; exact h c p h1
  · exact hf a i c p h2
theorem ErrIn.need {L : List Tok} {s : ByteArray} {i : Nat} {f : Nat → Option Res} (hf : ∀ i, ErrIn L (f i)) : ErrIn L (needT L s i f) := by
  unfold needT
  split
  · exact hf _
  · exact ErrIn.at_ (Or.inl rfl)
theorem sign_err {L : List Tok} {p : Orc} (h : ∀ g I o, ErrIn L (p g I o)) (s : ByteArray) (I o : Nat) : ErrIn L (signS p L s I o) := by
  unfold signS
  split
  · split
    · split
      · split
        · exact (h _ _ _).then_ fun _ _ => ErrIn.one_
        · exact ErrIn.at_ (Or.inl rfl)
      · exact ErrIn.at_ (Or.inl rfl)
    · exact (h _ _ _).then_ fun _ _ => ErrIn.one_
  · split
    · exact ErrIn.one_
    split
    · exact ErrIn.one_
    split
    · exact (h _ _ _).then_ fun _ _ => ErrIn.need fun _ => ErrIn.one_
    split
    · exact (h _ _ _).then_ fun _ _ => ErrIn.need fun _ => (h _ _ _).then_ fun _ _ => ErrIn.need fun _ => (h _ _ _).then_ fun _ _ => ErrIn.one_
    · exact ErrIn.at_ (Or.inl rfl)
theorem call_err {L : List Tok} {s : ByteArray} {r : Option Res} (h : ErrIn L r) : ErrIn L (callS s r) := by
  intro c p e
  unfold callS at e
  split at e
  · cases e
  · cases e; exact h c p rfl
  · unfold one at e; cases e
theorem operand_err {L : List Tok} {p : Orc} (h : ∀ g I o, ErrIn L (p g I o)) (I o : Nat) : ErrIn L (operandS p L I o) := by
  unfold operandS
  split
  · exact ErrIn.at_ (Or.inr rfl)
  split
  · exact ErrIn.at_ (Or.inl rfl)
  split
  · exact ErrIn.one_
  split
  · split
    · split
      · exact ErrIn.one_
      · exact call_err (h _ _ _)
    · exact ErrIn.one_
  split
  · exact sign_err h _ _ _
  · exact ErrIn.at_ (Or.inl rfl)
theorem P_err (L : List Tok) : ∀ f g I o, ErrIn L (P L f g I o)
  | 0 => fun g I o c p h => by cases h
  | f + 1 => fun g I o => by
    have h := P_err L f
    show ErrIn L (stepP L (P L f) g I o)
    unfold stepP
    split
    · split
      · exact (h _ _ _).then_ fun _ _ => h _ _ _
      · exact operand_err h _ _
    · split
      · exact ErrIn.one_
      · refine (h _ _ _).then_ fun _ _ => ?_
        split
        · exact ErrIn.one_
        · exact h _ _ _
    · refine (h _ _ _).then_ fun _ _ => ?_
      split
      · intro c p e; cases e
      split
      · exact h _ _ _
      · exact ErrIn.at_ (Or.inl rfl)
def ParR (L : List Tok) (from_ : Nat) (r : Except (Int × Int) (Fo × Nat)) : Prop := ∃ f, parse L f from_ = some r
theorem parse_more {L : List Tok} {f g i : Nat} (h : f ≤ g) {r : Except (Int × Int) (Fo × Nat)} (hr : parse L f i = some r) : parse L g i = some r := by
  unfold parse at hr ⊢
  cases hq : P L f (.bin 0) i 0 with
  | none => rw [hq] at hr; cases hr
  | some x => rw [P_more L h _ _ _ _ hq]; rw [hq] at hr; exact hr
theorem ParR.one {L : List Tok} {i : Nat} {r r' : Except (Int × Int) (Fo × Nat)} (h : ParR L i r) (h' : ParR L i r') : r = r' := by
  obtain ⟨f, hf⟩ := h
  obtain ⟨g, hg⟩ := h'
  have h1 := parse_more (Nat.le_max_left f g) hf
  have h2 := parse_more (Nat.le_max_right f g) hg
  rw [h1] at h2; exact Option.some.inj h2
theorem ParR.all {L : List Tok} (hL : ∀ t ∈ L, TokOk t) {i : Nat} (hi : i ≤ L.length) : ∃ r, ParR L i r := by
  obtain ⟨f, r, hr⟩ := ans_all hL _ (.bin 0) i 0 (Nat.le_refl _) hi (fun n hn => by cases hn; omega) (fun F hF => by simp [Tag.have_] at hF)
  have hok := P_ok hL f (.bin 0) i 0 r hi (fun F hF => by simp [Tag.have_] at hF) hr
  cases r with
  | error e => exact ⟨.error e, f, by unfold parse; rw [hr]⟩
  | ok x =>
    obtain ⟨l, j⟩ := x
    -- one expression
    have : ∃ F, l = [F] := P_one L f _ _ _ _ _ (fun l' => by simp) hr
    obtain ⟨F, rfl⟩ := this
    exact ⟨_, f, by unfold parse; rw [hr]⟩
def RdR (L : List Tok) (r : Except (Int × Int) Fo) : Prop := ∃ x, ParR L 0 x ∧ r = match x with
  | .error e => .error e
  | .ok (F, i) => if i < L.length then .error (5, atP L i) else .ok F
theorem RdR.one {L : List Tok} {r r' : Except (Int × Int) Fo} (h : RdR L r) (h' : RdR L r') : r = r' := by
  obtain ⟨x, h1, rfl⟩ := h
  obtain ⟨y, h2, rfl⟩ := h'
  rw [h1.one h2]
theorem RdR.all {L : List Tok} (hL : ∀ t ∈ L, TokOk t) : ∃ r, RdR L r := by
  obtain ⟨x, hx⟩ := ParR.all hL (Nat.zero_le _)
  exact ⟨_, x, hx, rfl⟩
theorem parse_ok {L : List Tok} {f i j : Nat} {F : Fo} (h : parse L f i = some (.ok (F, j))) : P L f (.bin 0) i 0 = some (.ok ([F], j)) ∧ F.size ≤ 5000 ∧ F.depth ≤ 40 := by
  unfold parse at h
  split at h
  · cases h
  · rename_i G k hG
    split at h
    · cases h
    split at h
    · cases h
    · rename_i h1 h2
      cases h; exact ⟨hG, by omega, by omega⟩
  · cases h
theorem parse_of {L : List Tok} {f i j : Nat} {F : Fo} (h : P L f (.bin 0) i 0 = some (.ok ([F], j))) (h1 : F.size ≤ 5000) (h2 : F.depth ≤ 40) : parse L f i = some (.ok (F, j)) := by
  unfold parse; rw [h]; simp only
  rw [if_neg (by omega), if_neg (by omega)]
theorem RdR.ok {L : List Tok} (hL : ∀ t ∈ L, TokOk t) {F : Fo} (h : RdR L (.ok F)) : ∃ f, P L f (.bin 0) 0 0 = some (.ok ([F], L.length)) ∧ F.size ≤ 5000 ∧ F.depth ≤ 40 ∧ Good F := by
  obtain ⟨x, ⟨f, hf⟩, h2⟩ := h
  match x, h2 with
  | .error e, h2 => simp at h2
  | .ok (G, i), h2 =>
    simp only at h2
    split at h2
    · cases h2
    · rename_i hi
      cases h2
      obtain ⟨h3, h4, h5⟩ := parse_ok hf
      obtain ⟨h6, h7, h8⟩ := ok_lt hL (Nat.zero_le _) h3
      have : i = L.length := by omega
      subst this
      exact ⟨f, h3, h4, h5, h8⟩
theorem good_may {F : Fo} (h : Good F) (h1 : F.size ≤ 5000) (h2 : F.depth ≤ 40) : mayB (F.flat 0) = true := by
  rw [may_flat h.wf h.one]
  have h3 := h.ops
  unfold okF
  simp only [Bool.and_eq_true, decide_eq_true_eq]
  refine ⟨⟨h1, h2⟩, fun e => ?_⟩
  rw [e] at h3; simp at h3
theorem up_end {L : List Tok} {f I o i : Nat} {l : List Fo} (he : hereT L i = none) : ∀ k n, n + k = 8 → P L (f + 1) (.bin 8) I o = some (.ok (l, i)) → (∃ F, l = [F]) → P L (f + 1 + k) (.bin n) I o = some (.ok (l, i)) := by
  intro k
  induction k with
  | zero => intro n hn h _; obtain rfl : n = 8 := by omega
            exact h
  | succ k ih =>
    intro n hn h hl
    have h1 := ih (n + 1) (by omega) h hl
    obtain ⟨F, rfl⟩ := hl
    show stepP L (P L (f + 1 + k)) (.bin n) I o = _
    simp only [stepP, if_pos (show n < 8 by omega), h1, thenE]
    obtain ⟨q, hq⟩ : ∃ q, f + 1 + k = q + 1 := ⟨f + k, by omega⟩
    rw [hq]
    simp only [P, stepP, he, Option.bind_none, one]
theorem up_err {L : List Tok} {f I o : Nat} {e : Int × Int} : ∀ k n, n + k = 8 → P L f (.bin 8) I o = some (.error e) → P L (f + k) (.bin n) I o = some (.error e) := by
  intro k
  induction k with
  | zero => intro n hn h; obtain rfl : n = 8 := by omega
            exact h
  | succ k ih =>
    intro n hn h
    have h1 := ih (n + 1) (by omega) h
    show stepP L (P L (f + k)) (.bin n) I o = _
    simp only [stepP, if_pos (show n < 8 by omega), h1, thenE]
def lparT (p : Nat) : Tok := ⟨4, tLpar, p⟩
def rparT (p : Nat) : Tok := ⟨4, tRpar, p⟩
theorem opAt_end {s : ByteArray} (h : s = bs [41] ∨ s = bs [59] ∨ s = bs [44] ∨ s = bs [116, 104, 101, 110] ∨ s = bs [116, 101, 108]) (n : Nat) : opAt n s = none := by
  have key : ∀ n, n < 9 → opAt n s = none := by
    rcases h with rfl | rfl | rfl | rfl | rfl <;> decide
  by_cases hn : n < 9
  · exact key n hn
  · match n, hn with
    | 0, hn | 1, hn | 2, hn | 3, hn | 4, hn | 5, hn | 6, hn | 7, hn => omega
    | n + 8, _ => rfl
theorem round_par {L M : List Tok} (hL : ∀ t ∈ L, TokOk t) {p q : Nat} (hlen : M.length = L.length) (hM : ∀ (i : Nat) (t : Tok), L[i]? = some t → ∃ t' : Tok, M[i]? = some t' ∧ t'.k = t.k ∧ t'.t = t.t) {F : Fo} (h : RdR L (.ok F)) :
    RdR (lparT p :: M ++ [rparT q]) (.ok F) ∨ ∃ a, RdR (lparT p :: M ++ [rparT q]) (.error (6, a)) := by
  obtain ⟨f, h1, h2, h3, h4⟩ := h.ok hL
  generalize hL' : lparT p :: M ++ [rparT q] = L'
  have hlen' : L'.length = L.length + 2 := by rw [← hL']; simp [hlen]
  have hend : L'[1 + L.length]? = some (rparT q) := by
    rw [← hL', List.getElem?_append_right (by simp; omega)]
    simp [hlen, Nat.add_comm]
  have hhere : hereT L' (1 + L.length) = some tRpar := by unfold hereT; rw [hend]; rfl
  have hE : Emb L L' 1 := by
    refine ⟨fun i t ht => ?_, fun n => ?_, ?_⟩
    · obtain ⟨t', a1, a2, a3⟩ := hM i t ht
      refine ⟨t', ?_, a2, a3⟩
      have hi := (List.getElem?_eq_some_iff.1 a1).1
      rw [← hL', List.getElem?_append_left (by simp; omega), Nat.add_comm, List.getElem?_cons_succ]
      exact a1
    · rw [hhere]; exact opAt_end (Or.inl rfl) n
    · rw [hhere]; decide
  have h0 : L'[0]? = some (lparT p) := by rw [← hL']; rfl
  have hop : P L' (f + 1) (.bin 8) 0 0 = thenE (P L' f (.bin 0) 1 1) fun a i => needT L' tRpar i fun i => one a i := by
    show stepP L' (P L' f) (.bin 8) 0 0 = _
    simp only [stepP, if_neg (show ¬ 8 < 8 by omega)]
    unfold operandS
    rw [if_neg (by omega), h0]
    simp only [lparT]
    rw [if_neg (by decide), if_neg (by decide), if_pos (by decide)]
    unfold signS
    have e : preAt tLpar = none := by decide
    rw [e]
    simp only
    rw [if_neg (by decide), if_neg (by decide), if_true]
  have hN : hereT L' (L.length + 2) = none := by unfold hereT; rw [List.getElem?_eq_none (by omega)]
  have hres : ∀ r, P L' (f + 1 + 8) (.bin 0) 0 0 = some r → (r = .ok ([F], L.length + 2) → RdR L' (.ok F)) ∧ (∀ a, r = .error (6, a) → ∃ a, RdR L' (.error (6, a))) := by
    intro r hr
    refine ⟨?_, ?_⟩
    · rintro rfl
      refine ⟨_, ⟨_, parse_of hr h2 h3⟩, ?_⟩
      simp only
      rw [if_neg (by omega)]
    · rintro a rfl
      refine ⟨a, .error (6, a), ⟨f + 1 + 8, ?_⟩, rfl⟩
      unfold parse; rw [hr]
  rcases P_emb hL hE 1 f (.bin 0) 0 0 [F] L.length (Nat.zero_le _) (fun G hG => by simp [Tag.have_] at hG) h1 with h5 | ⟨_, a, h5⟩
  · left
    have h5 : P L' f (.bin 0) 1 1 = some (.ok ([F], 1 + L.length)) := h5
    have h6 : P L' (f + 1) (.bin 8) 0 0 = some (.ok ([F], L.length + 2)) := by
      rw [hop, h5]
      simp only [thenE, needT, isT, hhere, decide_true, if_true, one]
      rw [show 1 + L.length + 1 = L.length + 2 by omega]
    exact (hres _ (up_end hN 8 0 (by omega) h6 ⟨F, rfl⟩)).1 rfl
  · right
    have h5 : P L' f (.bin 0) 1 1 = some (.error (6, a)) := h5
    have h6 : P L' (f + 1) (.bin 8) 0 0 = some (.error (6, a)) := by
      rw [hop, h5]; rfl
    exact (hres _ (up_err 8 0 (by omega) h6)).2 a rfl
theorem behind_par {L : List Tok} (hL : ∀ t ∈ L, TokOk t) {F : Fo} (h : RdR L (.ok F)) {t : Tok} (hs : t.t = bs [41] ∨ t.t = bs [59] ∨ t.t = bs [44] ∨ t.t = bs [116, 104, 101, 110] ∨ t.t = bs [116, 101, 108]) :
    ParR (L ++ [t]) 0 (.ok (F, L.length)) := by
  obtain ⟨f, h1, h2, h3, h4⟩ := h.ok hL
  have hend : (L ++ [t])[0 + L.length]? = some t := by simp
  have hE : Emb L (L ++ [t]) 0 := by
    refine ⟨fun i u hu => ⟨u, ?_, rfl, rfl⟩, fun n => ?_, ?_⟩
    · have hi := (List.getElem?_eq_some_iff.1 hu).1
      rw [Nat.zero_add, List.getElem?_append_left hi]; exact hu
    · unfold hereT; rw [hend]; simp only
      split
      · exact opAt_end hs n
      · rfl
    · unfold hereT; rw [hend]; simp only
      split
      · intro e
        have e : t.t = tLpar := Option.some.inj e
        rw [e] at hs
        revert hs; decide
      · intro e; cases e
  rcases P_emb hL hE 0 f (.bin 0) 0 0 [F] L.length (Nat.zero_le _) (fun G hG => by simp [Tag.have_] at hG) h1 with h5 | ⟨h5, _⟩
  · have h5 : P (L ++ [t]) f (.bin 0) 0 0 = some (.ok ([F], 0 + L.length)) := h5
    rw [Nat.zero_add] at h5
    exact ⟨f, parse_of h5 h2 h3⟩
  · omega
theorem short_par {L : List Tok} (hL : ∀ t ∈ L, TokOk t) {F : Fo} (h : RdR L (.ok F)) : 1 ≤ L.length ∧ ∀ G n, ParR (L.take (L.length - 1)) 0 (.ok (G, n)) → n < L.length ∧ G.size ≤ F.size := by
  obtain ⟨f, h1, h2, h3, h4⟩ := h.ok hL
  have h5 := (ok_lt hL (Nat.zero_le _) h1).1
  refine ⟨by omega, fun G n hG => ?_⟩
  obtain ⟨g, hg⟩ := hG
  obtain ⟨h6, _, _⟩ := parse_ok hg
  have hlen : (L.take (L.length - 1)).length = L.length - 1 := by rw [List.length_take]; omega
  have hP : Pre L (L.take (L.length - 1)) (L.length - 1) := ⟨hlen, fun i hi => by rw [List.getElem?_take, if_pos hi]⟩
  have hLt : ∀ t ∈ L.take (L.length - 1), TokOk t := fun t ht => hL t (List.mem_of_mem_take ht)
  have h7 := P_more _ (Nat.le_max_left g f) _ _ _ _ h6
  have h8 := P_more _ (Nat.le_max_right g f) _ _ _ _ h1
  obtain ⟨k1, k2⟩ := P_pre hLt hP (max g f) (.bin 0) 0 0 [G] n (Nat.zero_le _) h7
  have hn := (ok_lt hLt (Nat.zero_le _) h6).2.1
  rw [hlen] at hn
  rcases Nat.lt_or_ge n (L.length - 1) with hlt | hge
  · have := k1 hlt
    rw [h8] at this; cases this; omega
  · obtain ⟨_, k3⟩ := k2 hge [F] L.length h8
    simp [cat, Fo.app_no] at k3
    exact ⟨by omega, k3⟩
theorem fault_par {L : List Tok} {c p : Int} (h : RdR L (.error (c, p))) : c ≠ 0 ∧ (p = -1 ∨ ∃ t ∈ L, p = t.p) := by
  have hat : ∀ i, atP L i = -1 ∨ ∃ t ∈ L, atP L i = t.p := fun i => by
    unfold atP
    split
    · rename_i t ht; exact Or.inr ⟨t, List.mem_of_getElem? ht, rfl⟩
    · exact Or.inl rfl
  obtain ⟨x, ⟨f, hf⟩, h2⟩ := h
  match x, h2 with
  | .error e, h2 =>
    simp only at h2
    cases h2
    unfold parse at hf
    split at hf
    · rename_i e he
      cases hf
      obtain ⟨h3, i, h4⟩ := P_err L f _ _ _ c p he
      exact ⟨by omega, by rw [h4]; exact hat i⟩
    · simp only [Option.some.injEq] at hf
      split at hf
      · cases hf; exact ⟨by omega, hat _⟩
      split at hf
      · cases hf; exact ⟨by omega, hat _⟩
      · cases hf
    · cases hf
  | .ok (G, i), h2 =>
    simp only at h2
    split at h2
    · cases h2; exact ⟨by omega, hat i⟩
    · cases h2
theorem first_par (r : Lx.Bs) : Lx.first (40 :: r) = .tok 4 [40] := by
  unfold Lx.first
  have h1 : (40 :: r).takeWhile Lx.isDig = [] := by rw [List.takeWhile_cons, if_neg (by decide)]
  have h2 : (40 :: r).takeWhile Lx.isPt = [] := by rw [List.takeWhile_cons, if_neg (by decide)]
  have h3 : Lx.isWord [] = false := by decide
  have h4 : Lx.isName [] = false := by decide
  simp only [h1, h2, h3, h4, List.isEmpty_nil, if_true, Bool.false_eq_true, if_false]
  simp [Lx.signs, List.find?, List.isPrefixOf]
theorem lexS_par (s : Lx.Bs) (h : (Lx.lexS s).2 = none) : Lx.lexS (40 :: (s ++ [10, 41])) = (⟨4, [40], s.length + 3⟩ :: ((Lx.lexS s).1.map (Lx.sh 2) ++ [⟨4, [41], 1⟩]), none) := by
  have hn : (40 :: (s ++ [10, 41])).dropWhile Lx.isBl = 40 :: (s ++ [10, 41]) := by rw [List.dropWhile_cons, if_neg (by decide)]
  have hc : Lx.isCom (40 :: (s ++ [10, 41])) = false := by unfold Lx.isCom; simp [List.isPrefixOf]
  rw [Lx.lexS_tok hn (by simp) hc (first_par _)]
  have e : (40 :: (s ++ [10, 41])).drop ([40] : Lx.Bs).length = s ++ 10 :: [41] := rfl
  have e2 : Lx.lexS [41] = ([⟨4, [41], 1⟩], none) := rfl
  rw [e, Lx.lexS_line, e2]
  unfold Lx.glue
  rw [h]
  simp
end Px
end Go.Proofs.YtmklieoikbgmpaaGreatDoor
namespace Go.Proofs.YtmklieoikbgmpaaGreatDoor
open Go.RowKit Go.Shelf Tx Px
theorem depL_flat {F : Fo} (hw : F.wf = true) (hc : F.count = 1) : depL (F.flat 0) = F.depth := by
  have hs := one_size hc
  have hN := flat_NodeP hw
  have hR : InR (F.flat 0) := fun i x hx => (hN i x hx).2.1
  rw [depL_T hR (by rw [Fo.flat_len]; exact hs), Fo.flat_len, T_flat0 hw hc]
def ParPost (_L : List Tok) (_from_ : Nat) (w : World) (r : Except (Int × Int) (Fo × Nat)) (e : Ending) (w' : World) : Prop :=
  Below w.heap.size w w' ∧ match r with
  | .error (c, p) => e = .returned (.tuple #[.slice none 0 0, .int .i64 0, .agg #[.int .i64 c, .int .i64 p]])
  | .ok (F, i) => ∃ v, e = .returned (.tuple #[v, .int .i64 i, .agg #[.int .i64 0, .int .i64 0]]) ∧ OwnE w.heap.size w' v (F.flat 0)
theorem tok_at {L : List Tok} {a : Option Addr} {cc rb : Nat} {w W0 : World} (hv : Sl tokC 3 w (.slice a L.length cc) L) (hL : L.length ≤ 100000) (hok : ∀ t ∈ L, TokOk t) (hb : Below w.heap.size w W0) (hrb : w.heap.size ≤ rb) : EnvOk W0 rb a cc L := by
  obtain ⟨a', c', h1, hc, hx⟩ := hv.form
  cases h1
  refine ⟨hL, hc, fun W hW i x hi => ?_, hok⟩
  have hB := hW.keeps hb hb.size hrb
  obtain ⟨b, o, rfl, hj⟩ := hx W hB i x hi
  exact ⟨b, o, rfl, by have := hj 0 _ rfl; simpa using this, hj 1 _ rfl, hj 2 _ rfl⟩
end Go.Proofs.YtmklieoikbgmpaaGreatDoor
namespace Go.Proofs.YtmklieoikbgmpaaGreatDoor
open Go.RowKit Go.Shelf Tx Px
theorem lexS_len : ∀ r, (Lx.lexS r).1.length ≤ r.length := by
  refine Lx.lex_ind ?_ ?_ ?_ ?_ ?_
  · rw [Lx.lexS_nil]; simp
  · intro c r hb ih; rw [Lx.lexS_blank hb]; simp; omega
  · intro u hn hu hc ih; rw [Lx.lexS_com hn hu hc]; have := Lx.after_len hu; omega
  · intro u e hn hu hc he; rw [Lx.lexS_err hn hu hc he]; simp
  · intro u k t hn hu hc ht hp hne ih
    rw [Lx.lexS_tok hn hu hc ht]
    have h2 := Lx.drop_len hp hne
    simp only [List.length_cons] at ih ⊢; omega
def endR (L : List Tok) : Except (Int × Int) (Fo × Nat) → Except (Int × Int) Fo
  | .error e => .error e
  | .ok (F, i) => if i < L.length then .error (5, atP L i) else .ok F
def codeOk : Except (Int × Int) (Fo × Nat) → Prop
  | .error (c, _) => c ≠ 0
  | .ok _ => True
theorem codeOk_of {L : List Tok} {x : Except (Int × Int) (Fo × Nat)} (h : ParR L 0 x) : codeOk x := by
  match x, h with
  | .error (c, p), h => exact (fault_par (L := L) ⟨_, h, rfl⟩).1
  | .ok _, _ => trivial
def RdS (s : ByteArray) (r : Except (Int × Int) Fo) : Prop := match (Lx.lexS s.data.toList).2 with
  | some (c, m) => r = .error ((c : Int), ((s.size - m : Nat) : Int))
  | none => RdR (toks s.size (Lx.lexS s.data.toList).1) r
theorem toks_len (s : ByteArray) : (toks s.size (Lx.lexS s.data.toList).1).length ≤ s.size := by
  simp only [toks, List.length_map]; have := lexS_len s.data.toList; rwa [size_toList] at this
theorem toks_is (s : ByteArray) : ∀ t ∈ toks s.size (Lx.lexS s.data.toList).1, TokOk t := toks_ok s.data.toList s.size
theorem RdS.all (s : ByteArray) : ∃ r, RdS s r := by
  unfold RdS
  split
  · exact ⟨_, rfl⟩
  · exact RdR.all (toks_is s)
def RdPost (w : World) (r : Except (Int × Int) Fo) (e : Ending) (w' : World) : Prop :=
  Below w.heap.size w w' ∧ match r with
  | .error (c, p) => c ≠ 0 ∧ e = .returned (.tuple #[.slice none 0 0, .agg #[.int .i64 c, .int .i64 p]])
  | .ok F => ∃ v, e = .returned (.tuple #[v, .agg #[.int .i64 0, .int .i64 0]]) ∧ OwnE w.heap.size w' v (F.flat 0)
end Go.Proofs.YtmklieoikbgmpaaGreatDoor
