/- The reference's reader of expressions: the level of prod: the walk. The reference's reader of expressions: level 6 (cmp): the walk. The reference's reader of expressions: an operand, each level: the walk. The program's reader of expressions: an operand: the walk. Expressions out of texts: the plain mathematics of the laws. The reference's reader of expressions: an expression out of tokens: the walk. The reference's reader of expressions: an expression out of a text: the walk. -/
import Derived.Test.YtmklieoikbgmpaaDoorJ1
import Derived.Test.YtmklieoikbgmpaaDoorJ21
set_option linter.unusedVariables false
set_option linter.unusedSimpArgs false
namespace Go.Proofs.YtmklieoikbgmpaaDoor
open Go.RowKit Go.Shelf Tx Px
section
variable {L : List Tok} {a : Option Addr} {cc rb : Nat} {w0 : World}
end
end Go.Proofs.YtmklieoikbgmpaaDoor
namespace Go.Proofs.YtmklieoikbgmpaaDoor
open Go.RowKit Go.Shelf Tx Px
section
variable {L : List Tok} {a : Option Addr} {cc rb : Nat} {w0 : World}
end
end Go.Proofs.YtmklieoikbgmpaaDoor
namespace Go.Proofs.YtmklieoikbgmpaaDoor
open Go.RowKit Go.Shelf Tx Px
section
variable {L : List Tok} {a : Option Addr} {cc rb : Nat} {w0 : World}
theorem operand_cases {p : Orc} {L : List Tok} {I o : Nat} {r : Res} (h : operandS p L I o = some r) :
    (200 ≤ o ∧ r = .error (6, atP L I)) ∨ (o < 200 ∧ L.length ≤ I ∧ r = .error (5, atP L I)) ∨ (o < 200 ∧ ∃ x, L[I]? = some x ∧
      ((x.k = 2 ∧ one (node 1 (Lx.val x.t.data.toList) noS .no) (I + 1) = some r) ∨ (x.k = 1 ∧ namedS p L x.t I (o + 1) = some r) ∨ ((x.k = 3 ∨ x.k = 4) ∧ signS p L x.t I o = some r) ∨ ((x.k ≠ 1 ∧ x.k ≠ 2 ∧ x.k ≠ 3 ∧ x.k ≠ 4) ∧ errAt L 5 I = some r))) := by
  unfold operandS at h
  split at h
  · rename_i h1; exact Or.inl ⟨h1, (Option.some.inj h).symm⟩
  rename_i h1
  right
  split at h
  · rename_i h2; exact Or.inl ⟨by omega, List.getElem?_eq_none_iff.1 h2, (Option.some.inj h).symm⟩
  rename_i x hx
  refine Or.inr ⟨by omega, x, hx, ?_⟩
  split at h
  · rename_i h2; exact Or.inl ⟨h2, h⟩
  rename_i h2
  split at h
  · rename_i h3; exact Or.inr (Or.inl ⟨h3, by unfold namedS; exact h⟩)
  rename_i h3
  split at h
  · rename_i h4; exact Or.inr (Or.inr (Or.inl ⟨h4, h⟩))
  · rename_i h4; exact Or.inr (Or.inr (Or.inr ⟨by omega, h⟩))
theorem sign_cases {p : Orc} {L : List Tok} {s : ByteArray} {I o : Nat} {r : Res} (h : signS p L s I o = some r) :
    (preAt s = some 25 ∧ withinS p L I (o + 1) = some r) ∨ (∃ op, preAt s = some op ∧ op ≠ 25 ∧ (thenE (p (.bin 8) (I + 1) (o + 1)) fun a i => one (node op 0 noS a) i) = some r) ∨
    (s = ⟨#[116, 114, 117, 101]⟩ ∧ one (node 2 1 noS .no) (I + 1) = some r) ∨ (s = ⟨#[102, 97, 108, 115, 101]⟩ ∧ one (node 2 0 noS .no) (I + 1) = some r) ∨
    (s = ⟨#[40]⟩ ∧ (thenE (p (.bin 0) (I + 1) (o + 1)) fun a i => needT L tRpar i fun i => one a i) = some r) ∨ (s = ⟨#[105, 102]⟩ ∧ choiceS p L (I + 1) (o + 1) = some r) ∨
    (preAt s = none ∧ (s ≠ ⟨#[116, 114, 117, 101]⟩ ∧ s ≠ ⟨#[102, 97, 108, 115, 101]⟩ ∧ s ≠ ⟨#[40]⟩ ∧ s ≠ ⟨#[105, 102]⟩) ∧ errAt L 5 I = some r) := by
  unfold signS at h
  split at h
  · rename_i op hop
    split at h
    · rename_i h25; subst h25; exact Or.inl ⟨hop, by unfold withinS; exact h⟩
    · rename_i h25; exact Or.inr (Or.inl ⟨op, hop, h25, h⟩)
  · rename_i hop
    right; right
    split at h
    · rename_i h1; exact Or.inl ⟨h1, h⟩
    rename_i h1; right
    split at h
    · rename_i h2; exact Or.inl ⟨h2, h⟩
    rename_i h2; right
    split at h
    · rename_i h3; exact Or.inl ⟨h3, h⟩
    rename_i h3; right
    split at h
    · rename_i h4; exact Or.inl ⟨h4, by unfold choiceS; exact h⟩
    rename_i h4; right
    exact ⟨hop, ⟨h1, h2, h3, h4⟩, h⟩
end
end Go.Proofs.YtmklieoikbgmpaaDoor
namespace Go.Proofs.YtmklieoikbgmpaaDoor
open Go.RowKit Go.Shelf Tx Px
def OnOk (w0 : World) (rb : Nat) (a : Option Addr) (cc : Nat) (L : List Tok) (lb pb : Nat) (f : Nat) : Prop :=
  ∀ (I o : Nat) (r : Res) (w : World), I ≤ L.length → P L f (.bin 8) I o = some r → Al rb w0 w → RE rb a cc L lb pb w I o 0 0 →
    Calls Tryd.prog 44 #[.pointer (some ⟨rb, 0, none⟩)] w (RPost (RE rb a cc L lb pb) rb o w r)
section
variable {L : List Tok} {a : Option Addr} {cc rb lb pb : Nat} {w0 : World}
structure Kp (w0 w : World) (rb : Nat) (xb tb : Nat) (x : Tok) (W : World) : Prop where
  al : Al rb w W
  box : Blk W xb #[.pointer (some ⟨rb, 0, none⟩)] 49
  tok : Blk W tb #[.int .i64 (x.k : Nat), .string x.t, .int .i64 (x.p : Nat)] 42
  xb : w.heap.size ≤ xb
  tb : w.heap.size ≤ tb
  rb : rb < w.heap.size
theorem Kp.next {w : World} {xb tb : Nat} {x : Tok} {W W' : World} (h : Kp w0 w rb xb tb x W) (k : Al rb W W') : Kp w0 w rb xb tb x W' := by
  have h1 := h.xb
  have h2 := h.tb
  have h3 := h.rb
  exact ⟨h.al.next k, k.blk h.box (by omega), k.blk h.tok (by omega), h1, h2, h3⟩
theorem Kp.cells {w : World} {xb tb : Nat} {x : Tok} {W : World} (h : Kp w0 w rb xb tb x W) : W.cell? ⟨xb, 0, none⟩ = some (.pointer (some ⟨rb, 0, none⟩)) ∧ W.cell? ⟨tb, 0, none⟩ = some (.int .i64 (x.k : Nat)) ∧ W.cell? ⟨tb, 1, none⟩ = some (.string x.t) :=
  ⟨(one_cell h.box).1, (tri_cells h.tok).1, (tri_cells h.tok).2.1⟩
theorem door_ok {w W : World} {xb tb : Nat} {x : Tok} {o i : Nat} {F : Fo} {v : Value} (hk : Kp w0 w rb xb tb x W) (hR : RE rb a cc L lb pb W (i : Nat) ((o + 1 : Nat) : Int) 0 0) (hv : OwnE w.heap.size W v (F.flat 0)) :
    RPost (RE rb a cc L lb pb) rb o w (.ok ([F], i)) (.returned v) (W.setCell ⟨rb, 2, none⟩ (.int .i64 (((o + 1 : Nat) : Int) - 1))) := by
  have h := hR.setO (((o + 1 : Nat) : Int) - 1)
  have e : (((o + 1 : Nat) : Int) - 1) = (o : Int) := by omega
  refine rpost_ok (hk.al.set _ _) (((Al.refl rb W).set 2 _).ownE hv hk.rb) ?_
  rw [e] at h ⊢; exact h
theorem door_err {w W : World} {xb tb : Nat} {x : Tok} {o i : Nat} {c p : Int} {ad : Option Addr} {n k : Nat} (hk : Kp w0 w rb xb tb x W) (hR : RE rb a cc L lb pb W (i : Nat) ((o + 1 : Nat) : Int) c p) (hc : c ≠ 0) (hi : i ≤ 200000) :
    RPost (RE rb a cc L lb pb) rb o w (.error (c, p)) (.returned (.slice ad n k)) (W.setCell ⟨rb, 2, none⟩ (.int .i64 (((o + 1 : Nat) : Int) - 1))) := by
  have h := hR.setO (((o + 1 : Nat) : Int) - 1)
  have e : (((o + 1 : Nat) : Int) - 1) = (o : Int) := by omega
  refine rpost_err (hk.al.set _ _) hc hi ?_
  rw [e] at h ⊢; exact h
theorem number_good {lv pm : Value} (EV : Hid (EnvOk w0 rb a cc L)) (I : Nat) (hI : I ≤ 200000) (o p : Int) (x : Tok) (hx : L[I]? = some x) (hk : x.k = 2) (hv : Lx.val x.t.data.toList ≤ 1000) (w : World) (hB : Al rb w0 w) (hR : Re w rb (.slice a L.length cc) I o 0 p lv pm) :
    Calls Tryd.prog 66 #[.pointer (some ⟨rb, 0, none⟩)] w fun e w' => Al rb w w' ∧ e = .returned (.int .i64 (Lx.val x.t.data.toList : Nat)) ∧ Re w' rb (.slice a L.length cc) ((I : Int) + 1) o 0 p lv pm :=
  (number_num EV I hI o p x hx hk w hB hR).mono fun e w' ⟨h1, h2⟩ => by
    rcases h2 with ⟨_, h3, h4⟩ | ⟨h3, _⟩
    · exact ⟨h1, h3, h4⟩
    · omega
theorem number_bad {lv pm : Value} (EV : Hid (EnvOk w0 rb a cc L)) (I : Nat) (hI : I ≤ 200000) (o p : Int) (hu : ∀ u, L[I]? = some u → ¬ (u.k = 2 ∧ Lx.val u.t.data.toList ≤ 1000)) (w : World) (hB : Al rb w0 w) (hR : Re w rb (.slice a L.length cc) I o 0 p lv pm) :
    Calls Tryd.prog 66 #[.pointer (some ⟨rb, 0, none⟩)] w fun e w' => Al rb w w' ∧ e = .returned (.int .i64 0) ∧ Re w' rb (.slice a L.length cc) I o 5 (atP L I) lv pm := by
  by_cases h : ∃ x, L[I]? = some x ∧ x.k = 2
  · obtain ⟨x, hx, hk⟩ := h
    refine (number_num EV I hI o p x hx hk w hB hR).mono fun e w' ⟨h1, h2⟩ => ?_
    rcases h2 with ⟨h3, _⟩ | ⟨_, h3, h4⟩
    · exact absurd ⟨hk, h3⟩ (hu x hx)
    · exact ⟨h1, h3, h4⟩
  · exact number_no EV I hI o p (fun x hx hk => h ⟨x, hx, hk⟩) w hB hR
theorem kids_un {op n : Int} {s : ByteArray} (h : op = 4 ∨ op = 5 ∨ (21 ≤ op ∧ op ≤ 25)) : (kids (leaf op n s)).length = 1 := by
  rw [kids_leaf, if_neg (by omega), if_neg (by omega), if_neg (by omega), if_neg (by omega), if_pos (by omega)]
theorem eleaf (op n : Int) (s : ByteArray) (h : op = 1 ∨ op = 2 ∨ op = 3) (I o p : Int) (tv : Value) {lv pm : Value} (w : World) (hR : Re w rb tv I o 0 p lv pm) :
    Calls Tryd.prog 46 #[.pointer (some ⟨rb, 0, none⟩), .int .i64 op, .int .i64 n, .string s, .slice none 0 0] w fun r w' => ∃ v', r = .returned v' ∧ OwnE w.heap.size w' v' ((node op n s .no).flat 0) ∧ Below w.heap.size w w' := by
  have hj := ejoin_ok I o p tv op n s [] (.slice none 0 0) w hR Sg.nil_ (fun F hF => by simp at hF) (by simp [cat, Fo.size]) (by omega) (fun _ => by
    rw [kids_leaf, if_neg (by omega), if_neg (by omega), if_neg (by omega), if_neg (by omega), if_neg (by omega)]; rfl)
  rw [join_nil op n s (by omega)] at hj
  exact hj
set_option maxRecDepth 100000 in
set_option maxHeartbeats 16000000 in
theorem operand_early {ms : Nat → Nat} (EX : Hid (EnvX w0 rb a cc L lb pb ms)) (I o : Nat) (r : Res) (w : World) (hI : I ≤ L.length) (hcs : (200 ≤ o ∧ r = .error (6, atP L I)) ∨ (o < 200 ∧ L.length ≤ I ∧ r = .error (5, atP L I))) (hB : Al rb w0 w) (hR : RE rb a cc L lb pb w I o 0 0) :
    Calls Tryd.prog 44 #[.pointer (some ⟨rb, 0, none⟩)] w (RPost (RE rb a cc L lb pb) rb o w r) := by
  have hL := EX.out.ev.len
  have EV : Hid (EnvOk w0 rb a cc L) := EX.out.ev
  have hlt := hR.lt
  obtain ⟨xb, hxb⟩ : ∃ xb, xb = w.heap.size := ⟨_, rfl⟩
  have HXB := Lib.hid hxb
  obtain ⟨W0, hW0⟩ : ∃ W0, W0 = w.alloc (.cells #[.pointer (some ⟨rb, 0, none⟩)] 49) := ⟨_, rfl⟩
  have hb0 : Below w.heap.size w W0 := by rw [hW0]; exact (Below.refl _ _).alloc (Nat.le_refl _) _
  have hbx : Blk W0 xb #[.pointer (some ⟨rb, 0, none⟩)] 49 := by rw [hW0, hxb]; exact Blk.new w _ _
  have hR0 := hR.below hb0
  have hA0 : Al rb w W0 := Al.of hb0
  have hok := eok_any I o 0 0 _ _ hR0
  have HW0 := Lib.hid hW0
  have HB := Lib.hid hB
  have HC := Lib.hid hcs
  have HBX := Lib.hid hbx
  have HR0 := Lib.hid hR0
  have HA0 := Lib.hid hA0
  have hxr : xb ≠ rb := by omega
  rw [hxb.symm] at hlt
  clear hcs hB hR hb0 hR0 hA0 hxb hW0
  obtain ⟨c0, c1, c2, c3, c4, c5, c6⟩ := HR0.out.cells
  obtain ⟨f0, f1, f2, f3, f4⟩ := HR0.out.free
  have b0 := (one_cell hbx).1
  clear hbx
  have hmf : ∀ (fn : Fn) (first cap : Array Value) (w : World), (Instr.makeFunc fn first cap).run Tryd.prog w = .ok (.func fn first cap) w := fun _ _ _ _ => rfl
  go_enter_defers Tryd.func44, Tryd.ntmps44
  go_wp2_with fail
  rw [← HXB.out, ← HW0.out]
  refine hok.mono ?_
  rintro e w3 ⟨rfl, rfl⟩
  clear hok
  by_cases h200 : 200 ≤ o
  · have hf := efail_yes EV I (by omega) o 0 6 w3 (HB.out.next HA0.out) HR0.out
    have ho1 : (200 : Int) ≤ (o : Int) := by omega
    have HRE : Hid (r = .error (6, atP L I)) := by
      rcases HC.out with ⟨_, h⟩ | ⟨h, _⟩
      · exact h
      · omega
    clear HC
    go_wp2_with fail
    refine hf.mono ?_
    rintro e w4 ⟨rfl, hR4, hA4⟩
    have HR4 := Lib.hid hR4
    have HA4 := Lib.hid hA4
    clear hf hR4 hA4 c0 c1 c2 c3 c4 c5 c6 f0 f1 f2 f3 f4 b0
    go_wp2_with fail
    refine ⟨_, results_tmp rfl _ _ _, ?_⟩
    rw [HRE.out]
    exact rpost_err (HA0.out.next HA4.out) (by decide) (by omega) HR4.out
  · have ho1 : (o : Int) < 200 := by omega
    have hlen : L.length ≤ I := by
      rcases HC.out with ⟨h, _⟩ | ⟨_, h, _⟩
      · omega
      · exact h
    · have hf := fun q => efail_yes EV I (by omega) o 0 5 (w3.drewN q) ((HB.out.next HA0.out).drewN q) (HR0.out.drewN q)
      have hl1 : (L.length : Int) ≤ (I : Int) := by omega
      have hd1 : decide (L.length ≤ I) = true := by simp; omega
      have HRE : Hid (r = .error (5, atP L I)) := by
        rcases HC.out with ⟨h, _⟩ | ⟨_, _, h⟩
        · omega
        · exact h
      clear HC
      go_wp2_with fail
      go_quiet (fail)
      have hf2 := hf nq
      have HA1 : Hid (Al rb w (w3.drewN nq)) := HA0.out.drewN nq
      have b1 : (w3.drewN nq).cell? ⟨xb, 0, none⟩ = some (.pointer (some ⟨rb, 0, none⟩)) := b0
      clear hf
      generalize w3.drewN nq = W at *
      clear c0 c1 c2 c3 c4 c5 c6 f0 f1 f2 f3 f4 b0
      go_wp2_with fail
      refine hf2.mono ?_
      rintro e w4 ⟨rfl, hR4, hA4⟩
      have HR4 := Lib.hid hR4
      have HA4 := Lib.hid hA4
      clear hf2 hR4 hA4
      go_wp2_with fail
      refine ⟨_, results_tmp rfl _ _ _, ?_⟩
      rw [HRE.out]
      exact rpost_err (HA1.out.next HA4.out) (by decide) (by omega) HR4.out
end
end Go.Proofs.YtmklieoikbgmpaaDoor
namespace Go.Proofs.YtmklieoikbgmpaaDoor
namespace Px
open Tx
def tokR (N : Nat) (x : Lx.R) : Tok := ⟨x.k, ⟨x.t.toArray⟩, N - x.m⟩
theorem mem_while {p : UInt8 → Bool} {c : UInt8} : ∀ {l : Lx.Bs}, c ∈ l.takeWhile p → p c = true
  | [], h => by simp at h
  | x :: l, h => by
    rw [List.takeWhile_cons] at h
    split at h
    · rename_i hx
      rcases List.mem_cons.1 h with rfl | h
      · exact hx
      · exact mem_while h
    · simp at h
theorem tok_ok {x : Lx.R} (h : Lx.Is x.k x.t) (N : Nat) : TokOk (tokR N x) := by
  refine ⟨fun hk => ?_, fun hk => ?_⟩
  · have hk : x.k = 2 := hk
    have h1 := h.self
    have e : (tokR N x).t.data.toList = x.t := by simp [tokR]
    have e2 : (tokR N x).t.size = x.t.length := by simp [tokR, ByteArray.size]
    rw [e, e2]
    rw [hk] at h1
    unfold Lx.first at h1
    simp only at h1
    split at h1
    · split at h1
      · cases h1
      · split at h1
        · cases h1
        · split at h1
          · split at h1
            · cases h1
            · cases h1
          · cases h1
    · rename_i hne
      split at h1
      · cases h1
      · rename_i hbig
        injection h1 with _ h2
        have hall : x.t.all Lx.isDig = true := by
          rw [← h2, List.all_eq_true]
          exact fun c hc => mem_while hc
        rw [h2] at hbig hne
        unfold Lx.tooBig at hbig
        simp only [Bool.or_eq_true, decide_eq_true_eq, not_or, Nat.not_lt] at hbig
        exact ⟨hall, hbig.1.2, hbig.1.1, by simpa using hne⟩
  · have e : x.t ≠ [] := h.ne
    intro h2
    have := congrArg (fun b : ByteArray => b.data.toList) h2
    simp [tokR] at this
    exact e this
theorem toks_ok (s : Lx.Bs) (N : Nat) : ∀ t ∈ (Lx.lexS s).1.map (tokR N), TokOk t := by
  intro t ht
  obtain ⟨x, hx, rfl⟩ := List.mem_map.1 ht
  exact tok_ok (Lx.lexS_is s x hx) N
def ErrIn (L : List Tok) (r : Option Res) : Prop := ∀ c p, r = some (.error (c, p)) → (c = 5 ∨ c = 6) ∧ ∃ i, p = atP L i
theorem ErrIn.at_ {L : List Tok} {c : Int} {i : Nat} (h : c = 5 ∨ c = 6) : ErrIn L (errAt L c i) := by
  intro c' p e
  unfold errAt at e
  cases e; exact ⟨h, i, rfl⟩
theorem ErrIn.one_ {L : List Tok} {F : Fo} {i : Nat} : ErrIn L (one F i) := by
  intro c p e; unfold one at e; cases e
theorem ErrIn.then_ {L : List Tok} {r : Option Res} {f : Fo → Nat → Option Res} (h : ErrIn L r) (hf : ∀ a i, ErrIn L (f a i)) : ErrIn L (thenE r f) := by
  intro c p e
  rcases thenE_some e with ⟨e', h1, h2⟩ | ⟨a, i, _, h2⟩
  · cases h2; exact h c p h1
  · exact hf a i c p h2
theorem ErrIn.need {L : List Tok} {s : ByteArray} {i : Nat} {f : Nat → Option Res} (hf : ∀ i, ErrIn L (f i)) : ErrIn L (needT L s i f) := by
  unfold needT
  split
  · exact hf _
  · exact ErrIn.at_ (Or.inl rfl)
theorem sign_err {L : List Tok} {p : Orc} (h : ∀ g I o, ErrIn L (p g I o)) (s : ByteArray) (I o : Nat) : ErrIn L (signS p L s I o) := by
  unfold signS
  split
  · split
    · split
      · split
        · exact (h _ _ _).then_ fun _ _ => ErrIn.one_
        · exact ErrIn.at_ (Or.inl rfl)
      · exact ErrIn.at_ (Or.inl rfl)
    · exact (h _ _ _).then_ fun _ _ => ErrIn.one_
  · split
    · exact ErrIn.one_
    split
    · exact ErrIn.one_
    split
    · exact (h _ _ _).then_ fun _ _ => ErrIn.need fun _ => ErrIn.one_
    split
    · exact (h _ _ _).then_ fun _ _ => ErrIn.need fun _ => (h _ _ _).then_ fun _ _ => ErrIn.need fun _ => (h _ _ _).then_ fun _ _ => ErrIn.one_
    · exact ErrIn.at_ (Or.inl rfl)
theorem call_err {L : List Tok} {s : ByteArray} {r : Option Res} (h : ErrIn L r) : ErrIn L (callS s r) := by
  intro c p e
  unfold callS at e
  split at e
  · cases e
  · cases e; exact h c p rfl
  · unfold one at e; cases e
theorem operand_err {L : List Tok} {p : Orc} (h : ∀ g I o, ErrIn L (p g I o)) (I o : Nat) : ErrIn L (operandS p L I o) := by
  unfold operandS
  split
  · exact ErrIn.at_ (Or.inr rfl)
  split
  · exact ErrIn.at_ (Or.inl rfl)
  split
  · exact ErrIn.one_
  split
  · split
    · split
      · exact ErrIn.one_
      · exact call_err (h _ _ _)
    · exact ErrIn.one_
  split
  · exact sign_err h _ _ _
  · exact ErrIn.at_ (Or.inl rfl)
theorem P_err (L : List Tok) : ∀ f g I o, ErrIn L (P L f g I o)
  | 0 => fun g I o c p h => by cases h
  | f + 1 => fun g I o => by
    have h := P_err L f
    show ErrIn L (stepP L (P L f) g I o)
    unfold stepP
    split
    · split
      · exact (h _ _ _).then_ fun _ _ => h _ _ _
      · exact operand_err h _ _
    · split
      · exact ErrIn.one_
      · refine (h _ _ _).then_ fun _ _ => ?_
        split
        · exact ErrIn.one_
        · exact h _ _ _
    · refine (h _ _ _).then_ fun _ _ => ?_
      split
      · intro c p e; cases e
      split
      · exact h _ _ _
      · exact ErrIn.at_ (Or.inl rfl)
def ParR (L : List Tok) (from_ : Nat) (r : Except (Int × Int) (Fo × Nat)) : Prop := ∃ f, parse L f from_ = some r
theorem parse_more {L : List Tok} {f g i : Nat} (h : f ≤ g) {r : Except (Int × Int) (Fo × Nat)} (hr : parse L f i = some r) : parse L g i = some r := by
  unfold parse at hr ⊢
  cases hq : P L f (.bin 0) i 0 with
  | none => rw [hq] at hr; cases hr
  | some x => rw [P_more L h _ _ _ _ hq]; rw [hq] at hr; exact hr
theorem ParR.one {L : List Tok} {i : Nat} {r r' : Except (Int × Int) (Fo × Nat)} (h : ParR L i r) (h' : ParR L i r') : r = r' := by
  obtain ⟨f, hf⟩ := h
  obtain ⟨g, hg⟩ := h'
  have h1 := parse_more (Nat.le_max_left f g) hf
  have h2 := parse_more (Nat.le_max_right f g) hg
  rw [h1] at h2; exact Option.some.inj h2
theorem ParR.all {L : List Tok} (hL : ∀ t ∈ L, TokOk t) {i : Nat} (hi : i ≤ L.length) : ∃ r, ParR L i r := by
  obtain ⟨f, r, hr⟩ := ans_all hL _ (.bin 0) i 0 (Nat.le_refl _) hi (fun n hn => by cases hn; omega) (fun F hF => by simp [Tag.have_] at hF)
  have hok := P_ok hL f (.bin 0) i 0 r hi (fun F hF => by simp [Tag.have_] at hF) hr
  cases r with
  | error e => exact ⟨.error e, f, by unfold parse; rw [hr]⟩
  | ok x =>
    obtain ⟨l, j⟩ := x
    -- one expression
    have : ∃ F, l = [F] := P_one L f _ _ _ _ _ (fun l' => by simp) hr
    obtain ⟨F, rfl⟩ := this
    exact ⟨_, f, by unfold parse; rw [hr]⟩
def RdR (L : List Tok) (r : Except (Int × Int) Fo) : Prop := ∃ x, ParR L 0 x ∧ r = match x with
  | .error e => .error e
  | .ok (F, i) => if i < L.length then .error (5, atP L i) else .ok F
theorem RdR.one {L : List Tok} {r r' : Except (Int × Int) Fo} (h : RdR L r) (h' : RdR L r') : r = r' := by
  obtain ⟨x, h1, rfl⟩ := h
  obtain ⟨y, h2, rfl⟩ := h'
  rw [h1.one h2]
theorem RdR.all {L : List Tok} (hL : ∀ t ∈ L, TokOk t) : ∃ r, RdR L r := by
  obtain ⟨x, hx⟩ := ParR.all hL (Nat.zero_le _)
  exact ⟨_, x, hx, rfl⟩
theorem parse_ok {L : List Tok} {f i j : Nat} {F : Fo} (h : parse L f i = some (.ok (F, j))) : P L f (.bin 0) i 0 = some (.ok ([F], j)) ∧ F.size ≤ 5000 ∧ F.depth ≤ 40 := by
  unfold parse at h
  split at h
  · cases h
  · rename_i G k hG
    split at h
    · cases h
    split at h
    · cases h
    · rename_i h1 h2
      cases h; exact ⟨hG, by omega, by omega⟩
  · cases h
theorem RdR.ok {L : List Tok} (hL : ∀ t ∈ L, TokOk t) {F : Fo} (h : RdR L (.ok F)) : ∃ f, P L f (.bin 0) 0 0 = some (.ok ([F], L.length)) ∧ F.size ≤ 5000 ∧ F.depth ≤ 40 ∧ Good F := by
  obtain ⟨x, ⟨f, hf⟩, h2⟩ := h
  match x, h2 with
  | .error e, h2 => simp at h2
  | .ok (G, i), h2 =>
    simp only at h2
    split at h2
    · cases h2
    · rename_i hi
      cases h2
      obtain ⟨h3, h4, h5⟩ := parse_ok hf
      obtain ⟨h6, h7, h8⟩ := ok_lt hL (Nat.zero_le _) h3
      have : i = L.length := by omega
      subst this
      exact ⟨f, h3, h4, h5, h8⟩
theorem fault_par {L : List Tok} {c p : Int} (h : RdR L (.error (c, p))) : c ≠ 0 ∧ (p = -1 ∨ ∃ t ∈ L, p = t.p) := by
  have hat : ∀ i, atP L i = -1 ∨ ∃ t ∈ L, atP L i = t.p := fun i => by
    unfold atP
    split
    · rename_i t ht; exact Or.inr ⟨t, List.mem_of_getElem? ht, rfl⟩
    · exact Or.inl rfl
  obtain ⟨x, ⟨f, hf⟩, h2⟩ := h
  match x, h2 with
  | .error e, h2 =>
    simp only at h2
    cases h2
    unfold parse at hf
    split at hf
    · rename_i e he
      cases hf
      obtain ⟨h3, i, h4⟩ := P_err L f _ _ _ c p he
      exact ⟨by omega, by rw [h4]; exact hat i⟩
    · simp only [Option.some.injEq] at hf
      split at hf
      · cases hf; exact ⟨by omega, hat _⟩
      split at hf
      · cases hf; exact ⟨by omega, hat _⟩
      · cases hf
    · cases hf
  | .ok (G, i), h2 =>
    simp only at h2
    split at h2
    · cases h2; exact ⟨by omega, hat i⟩
    · cases h2
end Px
end Go.Proofs.YtmklieoikbgmpaaDoor
namespace Go.Proofs.YtmklieoikbgmpaaDoor
open Go.RowKit Go.Shelf Tx Px
theorem depL_flat {F : Fo} (hw : F.wf = true) (hc : F.count = 1) : depL (F.flat 0) = F.depth := by
  have hs := one_size hc
  have hN := flat_NodeP hw
  have hR : InR (F.flat 0) := fun i x hx => (hN i x hx).2.1
  rw [depL_T hR (by rw [Fo.flat_len]; exact hs), Fo.flat_len, T_flat0 hw hc]
def ParPost (_L : List Tok) (_from_ : Nat) (w : World) (r : Except (Int × Int) (Fo × Nat)) (e : Ending) (w' : World) : Prop :=
  Below w.heap.size w w' ∧ match r with
  | .error (c, p) => e = .returned (.tuple #[.slice none 0 0, .int .i64 0, .agg #[.int .i64 c, .int .i64 p]])
  | .ok (F, i) => ∃ v, e = .returned (.tuple #[v, .int .i64 i, .agg #[.int .i64 0, .int .i64 0]]) ∧ OwnE w.heap.size w' v (F.flat 0)
theorem tok_at {L : List Tok} {a : Option Addr} {cc rb : Nat} {w W0 : World} (hv : Sl tokC 3 w (.slice a L.length cc) L) (hL : L.length ≤ 100000) (hok : ∀ t ∈ L, TokOk t) (hb : Below w.heap.size w W0) (hrb : w.heap.size ≤ rb) : EnvOk W0 rb a cc L := by
  obtain ⟨a', c', h1, hc, hx⟩ := hv.form
  cases h1
  refine ⟨hL, hc, fun W hW i x hi => ?_, hok⟩
  have hB := hW.keeps hb hb.size hrb
  obtain ⟨b, o, rfl, hj⟩ := hx W hB i x hi
  exact ⟨b, o, rfl, by have := hj 0 _ rfl; simpa using this, hj 1 _ rfl, hj 2 _ rfl⟩
end Go.Proofs.YtmklieoikbgmpaaDoor
namespace Go.Proofs.YtmklieoikbgmpaaDoor
open Go.RowKit Go.Shelf Tx Px
theorem lexS_len : ∀ r, (Lx.lexS r).1.length ≤ r.length := by
  refine Lx.lex_ind ?_ ?_ ?_ ?_ ?_
  · rw [Lx.lexS_nil]; simp
  · intro c r hb ih; rw [Lx.lexS_blank hb]; simp; omega
  · intro u hn hu hc ih; rw [Lx.lexS_com hn hu hc]; have := Lx.after_len hu; omega
  · intro u e hn hu hc he; rw [Lx.lexS_err hn hu hc he]; simp
  · intro u k t hn hu hc ht hp hne ih
    rw [Lx.lexS_tok hn hu hc ht]
    have h2 := Lx.drop_len hp hne
    simp only [List.length_cons] at ih ⊢; omega
def endR (L : List Tok) : Except (Int × Int) (Fo × Nat) → Except (Int × Int) Fo
  | .error e => .error e
  | .ok (F, i) => if i < L.length then .error (5, atP L i) else .ok F
def codeOk : Except (Int × Int) (Fo × Nat) → Prop
  | .error (c, _) => c ≠ 0
  | .ok _ => True
theorem codeOk_of {L : List Tok} {x : Except (Int × Int) (Fo × Nat)} (h : ParR L 0 x) : codeOk x := by
  match x, h with
  | .error (c, p), h => exact (fault_par (L := L) ⟨_, h, rfl⟩).1
  | .ok _, _ => trivial
def RdS (s : ByteArray) (r : Except (Int × Int) Fo) : Prop := match (Lx.lexS s.data.toList).2 with
  | some (c, m) => r = .error ((c : Int), ((s.size - m : Nat) : Int))
  | none => RdR (toks s.size (Lx.lexS s.data.toList).1) r
theorem toks_len (s : ByteArray) : (toks s.size (Lx.lexS s.data.toList).1).length ≤ s.size := by
  simp only [toks, List.length_map]; have := lexS_len s.data.toList; rwa [size_toList] at this
theorem toks_is (s : ByteArray) : ∀ t ∈ toks s.size (Lx.lexS s.data.toList).1, TokOk t := toks_ok s.data.toList s.size
theorem RdS.all (s : ByteArray) : ∃ r, RdS s r := by
  unfold RdS
  split
  · exact ⟨_, rfl⟩
  · exact RdR.all (toks_is s)
def RdPost (w : World) (r : Except (Int × Int) Fo) (e : Ending) (w' : World) : Prop :=
  Below w.heap.size w w' ∧ match r with
  | .error (c, p) => c ≠ 0 ∧ e = .returned (.tuple #[.slice none 0 0, .agg #[.int .i64 c, .int .i64 p]])
  | .ok F => ∃ v, e = .returned (.tuple #[v, .agg #[.int .i64 0, .int .i64 0]]) ∧ OwnE w.heap.size w' v (F.flat 0)
end Go.Proofs.YtmklieoikbgmpaaDoor
