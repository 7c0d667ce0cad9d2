/- Tokens among others; tokens without the last ones: the plain mathematics. Expressions out of texts: the plain mathematics of the laws. An expression out of tokens hangs on the tokens that it is read from, and on the next one, alone: the plain mathematics. -/
import Derived.Test.YtahalimekacliaaGreatDoorJ2
set_option linter.unusedVariables false
set_option linter.unusedSimpArgs false
namespace Go.Proofs.YtahalimekacliaaGreatDoor
namespace Px
open Tx
theorem ok_lt {L : List Tok} (hL : ∀ t ∈ L, TokOk t) {f n I o i : Nat} {a : Fo} (hI : I ≤ L.length) (h : P L f (.bin n) I o = some (.ok ([a], i))) : I < i ∧ i ≤ L.length ∧ Good a := by
  obtain ⟨g1, g2, g3, g4⟩ := (P_ok hL f).bin hI h
  have := good_size g1
  exact ⟨by omega, g3, g1⟩
structure Emb (L L' : List Tok) (d : Nat) : Prop where
  same : ∀ i t, L[i]? = some t → ∃ t', L'[d + i]? = some t' ∧ t'.k = t.k ∧ t'.t = t.t
  stop : ∀ n, (hereT L' (d + L.length)).bind (opAt n) = none
  par : hereT L' (d + L.length) ≠ some tLpar
theorem Emb.here {L L' : List Tok} {d : Nat} (h : Emb L L' d) {i : Nat} (hi : i < L.length) : hereT L' (d + i) = hereT L i := by
  obtain ⟨t', h1, h2, h3⟩ := h.same i _ (List.getElem?_eq_getElem hi)
  unfold hereT
  rw [h1, List.getElem?_eq_getElem hi]
  simp only [h2, h3]
theorem Emb.isT {L L' : List Tok} {d : Nat} (h : Emb L L' d) {i : Nat} (hi : i < L.length) (s : ByteArray) : isT L' (d + i) s = isT L i s := by
  unfold Px.isT; rw [h.here hi]
def EmbR (k d : Nat) (l : List Fo) (i : Nat) (r : Option Res) : Prop := r = some (.ok (l, d + i)) ∨ (0 < k ∧ ∃ a, r = some (.error (6, a)))
theorem EmbR.then_ {k d i j : Nat} {a : Fo} {l : List Fo} {r : Option Res} {f : Fo → Nat → Option Res} (h : EmbR k d [a] i r) (hf : EmbR k d l j (f a (d + i))) : EmbR k d l j (thenE r f) := by
  rcases h with rfl | ⟨hk, e, rfl⟩
  · exact hf
  · exact Or.inr ⟨hk, e, rfl⟩
theorem EmbR.one_ {k d i : Nat} (a : Fo) : EmbR k d [a] i (one a (d + i)) := Or.inl rfl
theorem Emb.need {L L' : List Tok} {d k : Nat} (h : Emb L L' d) {s : ByteArray} {i j : Nat} {l : List Fo} {f : Nat → Option Res} (hi : Px.isT L i s = true) (hf : EmbR k d l j (f (d + (i + 1)))) : EmbR k d l j (needT L' s (d + i) f) := by
  unfold needT
  rw [h.isT (isT_lt hi), hi, if_pos rfl]; exact hf
structure Pre (L L' : List Tok) (N : Nat) : Prop where
  len : L'.length = N
  same : ∀ i, i < N → L'[i]? = L[i]?
theorem Pre.here {L L' : List Tok} {N : Nat} (h : Pre L L' N) {i : Nat} (hi : i < N) : hereT L' i = hereT L i := by unfold hereT; rw [h.same i hi]
theorem Pre.isT {L L' : List Tok} {N : Nat} (h : Pre L L' N) {i : Nat} (hi : i < N) (s : ByteArray) : Px.isT L' i s = Px.isT L i s := by unfold Px.isT; rw [h.here hi]
theorem Pre.not {L L' : List Tok} {N : Nat} (h : Pre L L' N) {i : Nat} (hi : N ≤ i) (s : ByteArray) : Px.isT L' i s = false := by
  unfold Px.isT hereT; rw [List.getElem?_eq_none (by rw [h.len]; exact hi)]; simp
end Px
end Go.Proofs.YtahalimekacliaaGreatDoor
namespace Go.Proofs.YtahalimekacliaaGreatDoor
namespace Px
open Tx
def tokR (N : Nat) (x : Lx.R) : Tok := ⟨x.k, ⟨x.t.toArray⟩, N - x.m⟩
theorem mem_while {p : UInt8 → Bool} {c : UInt8} : ∀ {l : Lx.Bs}, c ∈ l.takeWhile p → p c = true
  | [], h => by simp at h
  | x :: l, h => by
    rw [List.takeWhile_cons] at h
    split at h
    · rename_i hx
      rcases List.mem_cons.1 h with rfl | h
      · exact hx
      · exact mem_while h
    · simp at h
theorem tok_ok {x : Lx.R} (h : Lx.Is x.k x.t) (N : Nat) : TokOk (tokR N x) := by
  refine ⟨fun hk => ?_, fun hk => ?_⟩
  · have hk : x.k = 2 := hk
    have h1 := h.self
    have e : (tokR N x).t.data.toList = x.t := by simp [tokR]
    have e2 : (tokR N x).t.size = x.t.length := by simp [tokR, ByteArray.size]
    rw [e, e2]
    rw [hk] at h1
    unfold Lx.first at h1
    simp only at h1
    split at h1
    · split at h1
      · cases h1
      · split at h1
        · cases h1
        · split at h1
          · split at h1
            · cases h1
            · cases h1
          · cases h1
    · rename_i hne
      split at h1
      · cases h1
      · rename_i hbig
        injection h1 with _ h2
        have hall : x.t.all Lx.isDig = true := by
          rw [← h2, List.all_eq_true]
          exact fun c hc => mem_while hc
        rw [h2] at hbig hne
        unfold Lx.tooBig at hbig
        simp only [Bool.or_eq_true, decide_eq_true_eq, not_or, Nat.not_lt] at hbig
        exact ⟨hall, hbig.1.2, hbig.1.1, by simpa using hne⟩
  · have e : x.t ≠ [] := h.ne
    intro h2
    have := congrArg (fun b : ByteArray => b.data.toList) h2
    simp [tokR] at this
    exact e this
theorem toks_ok (s : Lx.Bs) (N : Nat) : ∀ t ∈ (Lx.lexS s).1.map (tokR N), TokOk t := by
  intro t ht
  obtain ⟨x, hx, rfl⟩ := List.mem_map.1 ht
  exact tok_ok (Lx.lexS_is s x hx) N
def ErrIn (L : List Tok) (r : Option Res) : Prop := ∀ c p, r = some (.error (c, p)) → (c = 5 ∨ c = 6) ∧ ∃ i, p = atP L i
theorem ErrIn.at_ {L : List Tok} {c : Int} {i : Nat} (h : c = 5 ∨ c = 6) : ErrIn L (errAt L c i) := by
  intro c' p e
  unfold errAt at e
  cases e; exact ⟨h, i, rfl⟩
theorem ErrIn.one_ {L : List Tok} {F : Fo} {i : Nat} : ErrIn L (one F i) := by
  intro c p e; unfold one at e; cases e
theorem ErrIn.then_ {L : List Tok} {r : Option Res} {f : Fo → Nat → Option Res} (h : ErrIn L r) (hf : ∀ a i, ErrIn L (f a i)) : ErrIn L (thenE r f) := by
  intro c p e
  rcases thenE_some e with ⟨e', h1, h2⟩ | ⟨a, i, _, h2⟩
  · cases h2; exact h c p h1
  · exact hf a i c p h2
theorem ErrIn.need {L : List Tok} {s : ByteArray} {i : Nat} {f : Nat → Option Res} (hf : ∀ i, ErrIn L (f i)) : ErrIn L (needT L s i f) := by
  unfold needT
  split
  · exact hf _
  · exact ErrIn.at_ (Or.inl rfl)
theorem sign_err {L : List Tok} {p : Orc} (h : ∀ g I o, ErrIn L (p g I o)) (s : ByteArray) (I o : Nat) : ErrIn L (signS p L s I o) := by
  unfold signS
  split
  · split
    · split
      · split
        · exact (h _ _ _).then_ fun _ _ => ErrIn.one_
        · exact ErrIn.at_ (Or.inl rfl)
      · exact ErrIn.at_ (Or.inl rfl)
    · exact (h _ _ _).then_ fun _ _ => ErrIn.one_
  · split
    · exact ErrIn.one_
    split
    · exact ErrIn.one_
    split
    · exact (h _ _ _).then_ fun _ _ => ErrIn.need fun _ => ErrIn.one_
    split
    · exact (h _ _ _).then_ fun _ _ => ErrIn.need fun _ => (h _ _ _).then_ fun _ _ => ErrIn.need fun _ => (h _ _ _).then_ fun _ _ => ErrIn.one_
    · exact ErrIn.at_ (Or.inl rfl)
theorem call_err {L : List Tok} {s : ByteArray} {r : Option Res} (h : ErrIn L r) : ErrIn L (callS s r) := by
  intro c p e
  unfold callS at e
  split at e
  · cases e
  · cases e; exact h c p rfl
  · unfold one at e; cases e
theorem operand_err {L : List Tok} {p : Orc} (h : ∀ g I o, ErrIn L (p g I o)) (I o : Nat) : ErrIn L (operandS p L I o) := by
  unfold operandS
  split
  · exact ErrIn.at_ (Or.inr rfl)
  split
  · exact ErrIn.at_ (Or.inl rfl)
  split
  · exact ErrIn.one_
  split
  · split
    · split
      · exact ErrIn.one_
      · exact call_err (h _ _ _)
    · exact ErrIn.one_
  split
  · exact sign_err h _ _ _
  · exact ErrIn.at_ (Or.inl rfl)
theorem P_err (L : List Tok) : ∀ f g I o, ErrIn L (P L f g I o)
  | 0 => fun g I o c p h => by cases h
  | f + 1 => fun g I o => by
    have h := P_err L f
    show ErrIn L (stepP L (P L f) g I o)
    unfold stepP
    split
    · split
      · exact (h _ _ _).then_ fun _ _ => h _ _ _
      · exact operand_err h _ _
    · split
      · exact ErrIn.one_
      · refine (h _ _ _).then_ fun _ _ => ?_
        split
        · exact ErrIn.one_
        · exact h _ _ _
    · refine (h _ _ _).then_ fun _ _ => ?_
      split
      · intro c p e; cases e
      split
      · exact h _ _ _
      · exact ErrIn.at_ (Or.inl rfl)
def ParR (L : List Tok) (from_ : Nat) (r : Except (Int × Int) (Fo × Nat)) : Prop := ∃ f, parse L f from_ = some r
theorem parse_more {L : List Tok} {f g i : Nat} (h : f ≤ g) {r : Except (Int × Int) (Fo × Nat)} (hr : parse L f i = some r) : parse L g i = some r := by
  unfold parse at hr ⊢
  cases hq : P L f (.bin 0) i 0 with
  | none => rw [hq] at hr; cases hr
  | some x => rw [P_more L h _ _ _ _ hq]; rw [hq] at hr; exact hr
theorem ParR.one {L : List Tok} {i : Nat} {r r' : Except (Int × Int) (Fo × Nat)} (h : ParR L i r) (h' : ParR L i r') : r = r' := by
  obtain ⟨f, hf⟩ := h
  obtain ⟨g, hg⟩ := h'
  have h1 := parse_more (Nat.le_max_left f g) hf
  have h2 := parse_more (Nat.le_max_right f g) hg
  rw [h1] at h2; exact Option.some.inj h2
theorem ParR.all {L : List Tok} (hL : ∀ t ∈ L, TokOk t) {i : Nat} (hi : i ≤ L.length) : ∃ r, ParR L i r := by
  obtain ⟨f, r, hr⟩ := ans_all hL _ (.bin 0) i 0 (Nat.le_refl _) hi (fun n hn => by cases hn; omega) (fun F hF => by simp [Tag.have_] at hF)
  have hok := P_ok hL f (.bin 0) i 0 r hi (fun F hF => by simp [Tag.have_] at hF) hr
  cases r with
  | error e => exact ⟨.error e, f, by unfold parse; rw [hr]⟩
  | ok x =>
    obtain ⟨l, j⟩ := x
    -- one expression
    have : ∃ F, l = [F] := P_one L f _ _ _ _ _ (fun l' => by simp) hr
    obtain ⟨F, rfl⟩ := this
    exact ⟨_, f, by unfold parse; rw [hr]⟩
def RdR (L : List Tok) (r : Except (Int × Int) Fo) : Prop := ∃ x, ParR L 0 x ∧ r = match x with
  | .error e => .error e
  | .ok (F, i) => if i < L.length then .error (5, atP L i) else .ok F
theorem RdR.one {L : List Tok} {r r' : Except (Int × Int) Fo} (h : RdR L r) (h' : RdR L r') : r = r' := by
  obtain ⟨x, h1, rfl⟩ := h
  obtain ⟨y, h2, rfl⟩ := h'
  rw [h1.one h2]
theorem RdR.all {L : List Tok} (hL : ∀ t ∈ L, TokOk t) : ∃ r, RdR L r := by
  obtain ⟨x, hx⟩ := ParR.all hL (Nat.zero_le _)
  exact ⟨_, x, hx, rfl⟩
theorem parse_ok {L : List Tok} {f i j : Nat} {F : Fo} (h : parse L f i = some (.ok (F, j))) : P L f (.bin 0) i 0 = some (.ok ([F], j)) ∧ F.size ≤ 5000 ∧ F.depth ≤ 40 := by
  unfold parse at h
  split at h
  · cases h
  · rename_i G k hG
    split at h
    · cases h
    split at h
    · cases h
    · rename_i h1 h2
      cases h; exact ⟨hG, by omega, by omega⟩
  · cases h
theorem RdR.ok {L : List Tok} (hL : ∀ t ∈ L, TokOk t) {F : Fo} (h : RdR L (.ok F)) : ∃ f, P L f (.bin 0) 0 0 = some (.ok ([F], L.length)) ∧ F.size ≤ 5000 ∧ F.depth ≤ 40 ∧ Good F := by
  obtain ⟨x, ⟨f, hf⟩, h2⟩ := h
  match x, h2 with
  | .error e, h2 => simp at h2
  | .ok (G, i), h2 =>
    simp only at h2
    split at h2
    · cases h2
    · rename_i hi
      cases h2
      obtain ⟨h3, h4, h5⟩ := parse_ok hf
      obtain ⟨h6, h7, h8⟩ := ok_lt hL (Nat.zero_le _) h3
      have : i = L.length := by omega
      subst this
      exact ⟨f, h3, h4, h5, h8⟩
theorem good_may {F : Fo} (h : Good F) (h1 : F.size ≤ 5000) (h2 : F.depth ≤ 40) : mayB (F.flat 0) = true := by
  rw [may_flat h.wf h.one]
  have h3 := h.ops
  unfold okF
  simp only [Bool.and_eq_true, decide_eq_true_eq]
  refine ⟨⟨h1, h2⟩, fun e => ?_⟩
  rw [e] at h3; simp at h3
theorem up_err {L : List Tok} {f I o : Nat} {e : Int × Int} : ∀ k n, n + k = 8 → P L f (.bin 8) I o = some (.error e) → P L (f + k) (.bin n) I o = some (.error e) := by
  intro k
  induction k with
  | zero => intro n hn h; obtain rfl : n = 8 := by omega
            exact h
  | succ k ih =>
    intro n hn h
    have h1 := ih (n + 1) (by omega) h
    show stepP L (P L (f + k)) (.bin n) I o = _
    simp only [stepP, if_pos (show n < 8 by omega), h1, thenE]
end Px
end Go.Proofs.YtahalimekacliaaGreatDoor
namespace Go.Proofs.YtahalimekacliaaGreatDoor
namespace Px
open Tx
def kt (t : Tok) : Nat × ByteArray := (t.k, t.t)
def LocT (L L' : List Tok) (d I j : Nat) : Prop := ∀ m, I ≤ m → m ≤ j → (L[m]?).map kt = (L'[d + m]?).map kt
theorem LocT.mono {L L' : List Tok} {d I j I' j' : Nat} (h : LocT L L' d I j) (h1 : I ≤ I') (h2 : j' ≤ j) : LocT L L' d I' j' := fun m a b => h m (by omega) (by omega)
theorem kt_here {L L' : List Tok} {m m' : Nat} (h : (L[m]?).map kt = (L'[m']?).map kt) : hereT L' m' = hereT L m := by
  unfold hereT
  cases h1 : L[m]? with
  | none => rw [h1] at h; cases h2 : L'[m']? with
    | none => rfl
    | some t => rw [h2] at h; cases h
  | some t => rw [h1] at h; cases h2 : L'[m']? with
    | none => rw [h2] at h; cases h
    | some t' =>
      rw [h2] at h
      simp only [Option.map_some, Option.some.injEq, kt, Prod.mk.injEq] at h
      simp only [h.1, h.2]
theorem kt_isT {L L' : List Tok} {m m' : Nat} (h : (L[m]?).map kt = (L'[m']?).map kt) (s : ByteArray) : isT L' m' s = isT L m s := by
  unfold isT; rw [kt_here h]
theorem kt_some {L L' : List Tok} {m m' : Nat} (h : (L[m]?).map kt = (L'[m']?).map kt) {t : Tok} (ht : L[m]? = some t) : ∃ t', L'[m']? = some t' ∧ t'.k = t.k ∧ t'.t = t.t := by
  rw [ht] at h
  cases h2 : L'[m']? with
  | none => rw [h2] at h; cases h
  | some t' =>
    rw [h2] at h
    simp only [Option.map_some, Option.some.injEq, kt, Prod.mk.injEq] at h
    exact ⟨t', rfl, h.1.symm, h.2.symm⟩
theorem kt_none {L L' : List Tok} {m m' : Nat} (h : (L[m]?).map kt = (L'[m']?).map kt) (ht : L[m]? = none) : L'[m']? = none := by
  rw [ht] at h
  cases h2 : L'[m']? with
  | none => rfl
  | some t' => rw [h2] at h; cases h
theorem LocT.here {L L' : List Tok} {d I j : Nat} (h : LocT L L' d I j) {m : Nat} (h1 : I ≤ m) (h2 : m ≤ j) : hereT L' (d + m) = hereT L m := kt_here (h m h1 h2)
theorem LocT.isT {L L' : List Tok} {d I j : Nat} (h : LocT L L' d I j) {m : Nat} (h1 : I ≤ m) (h2 : m ≤ j) (s : ByteArray) : isT L' (d + m) s = isT L m s := kt_isT (h m h1 h2) s
theorem LocT.need {L L' : List Tok} {d I j m k : Nat} (h : LocT L L' d I j) (h1 : I ≤ m) (h2 : m ≤ j) {s : ByteArray} {l : List Fo} {f : Nat → Option Res} (hi : Px.isT L m s = true) (hf : f (d + (m + 1)) = some (.ok (l, k))) : needT L' s (d + m) f = some (.ok (l, k)) := by
  unfold needT
  rw [h.isT h1 h2, hi, if_pos rfl]; exact hf
def AlkT (L L' : List Tok) : Prop := L.map kt = L'.map kt
theorem AlkT.at_ {L L' : List Tok} (h : AlkT L L') (m : Nat) : (L[m]?).map kt = (L'[m]?).map kt := by
  rw [← List.getElem?_map, ← List.getElem?_map, h]
theorem AlkT.len {L L' : List Tok} (h : AlkT L L') : L.length = L'.length := by
  have := congrArg List.length h; simpa using this
def RelR (L L' : List Tok) (a b : Option Res) : Prop := (a = none ∧ b = none) ∨ (∃ x, a = some (.ok x) ∧ b = some (.ok x)) ∨ ∃ (c : Int) (i : Nat), a = some (.error (c, atP L i)) ∧ b = some (.error (c, atP L' i))
def RelO (L L' : List Tok) (p p' : Orc) : Prop := ∀ g I o, RelR L L' (p g I o) (p' g I o)
section
variable {L L' : List Tok}
theorem RelR.err (c : Int) (i : Nat) : RelR L L' (errAt L c i) (errAt L' c i) := Or.inr (Or.inr ⟨c, i, rfl, rfl⟩)
theorem RelR.one_ (F : Fo) (i : Nat) : RelR L L' (one F i) (one F i) := Or.inr (Or.inl ⟨_, rfl, rfl⟩)
theorem RelR.then_ {r r' : Option Res} {f f' : Fo → Nat → Option Res} (h : RelR L L' r r') (hf : ∀ a i, RelR L L' (f a i) (f' a i)) : RelR L L' (thenE r f) (thenE r' f') := by
  rcases h with ⟨rfl, rfl⟩ | ⟨⟨l, i⟩, rfl, rfl⟩ | ⟨c, i, rfl, rfl⟩
  · exact Or.inl ⟨rfl, rfl⟩
  · match l with
    | [a] => exact hf a i
    | [] => exact Or.inl ⟨rfl, rfl⟩
    | a :: b :: l => exact Or.inl ⟨rfl, rfl⟩
  · exact Or.inr (Or.inr ⟨c, i, rfl, rfl⟩)
theorem RelR.need {s : ByteArray} {i : Nat} {f f' : Nat → Option Res} (h : AlkT L L') (hf : ∀ i, RelR L L' (f i) (f' i)) : RelR L L' (needT L s i f) (needT L' s i f') := by
  unfold needT
  rw [kt_isT (h.at_ i)]
  split
  · exact hf _
  · exact RelR.err 5 i
theorem sign_rel (h : AlkT L L') {p p' : Orc} (hp : RelO L L' p p') (s : ByteArray) (I o : Nat) : RelR L L' (signS p L s I o) (signS p' L' s I o) := by
  unfold signS
  split
  · split
    · cases hu : L[I + 1]? with
      | none => rw [kt_none (h.at_ _) hu]; exact RelR.err 5 _
      | some u =>
        obtain ⟨u', h1, h2, h3⟩ := kt_some (h.at_ _) hu
        rw [h1]
        simp only [h2, h3]
        split
        · exact (hp _ _ _).then_ fun _ _ => RelR.one_ _ _
        · exact RelR.err 5 _
    · exact (hp _ _ _).then_ fun _ _ => RelR.one_ _ _
  · split
    · exact RelR.one_ _ _
    split
    · exact RelR.one_ _ _
    split
    · exact (hp _ _ _).then_ fun _ _ => RelR.need h fun _ => RelR.one_ _ _
    split
    · exact (hp _ _ _).then_ fun _ _ => RelR.need h fun _ => (hp _ _ _).then_ fun _ _ => RelR.need h fun _ => (hp _ _ _).then_ fun _ _ => RelR.one_ _ _
    · exact RelR.err 5 _
theorem call_rel {s : ByteArray} {r r' : Option Res} (h : RelR L L' r r') : RelR L L' (callS s r) (callS s r') := by
  rcases h with ⟨rfl, rfl⟩ | ⟨⟨l, i⟩, rfl, rfl⟩ | ⟨c, i, rfl, rfl⟩
  · exact Or.inl ⟨rfl, rfl⟩
  · exact RelR.one_ _ _
  · exact Or.inr (Or.inr ⟨c, i, rfl, rfl⟩)
theorem operand_rel (h : AlkT L L') {p p' : Orc} (hp : RelO L L' p p') (I o : Nat) : RelR L L' (operandS p L I o) (operandS p' L' I o) := by
  unfold operandS
  split
  · exact RelR.err 6 I
  cases ht : L[I]? with
  | none => rw [kt_none (h.at_ _) ht]; exact RelR.err 5 I
  | some t =>
    obtain ⟨t', h1, h2, h3⟩ := kt_some (h.at_ _) ht
    rw [h1]
    simp only [h2, h3, kt_isT (h.at_ (I + 1)), kt_isT (h.at_ (I + 2))]
    split
    · exact RelR.one_ _ _
    split
    · split
      · split
        · exact RelR.one_ _ _
        · exact call_rel (hp _ _ _)
      · exact RelR.one_ _ _
    split
    · exact sign_rel h hp _ _ _
    · exact RelR.err 5 I
theorem step_rel (h : AlkT L L') {p p' : Orc} (hp : RelO L L' p p') : RelO L L' (stepP L p) (stepP L' p') := by
  intro g I o
  cases g with
  | bin n =>
    simp only [stepP]
    split
    · exact (hp _ _ _).then_ fun _ _ => hp _ _ _
    · exact operand_rel h hp I o
  | loop n a =>
    simp only [stepP, kt_here (h.at_ I)]
    split
    · exact RelR.one_ _ _
    · refine (hp _ _ _).then_ fun _ _ => ?_
      split
      · exact RelR.one_ _ _
      · exact hp _ _ _
  | args l =>
    simp only [stepP]
    refine (hp _ _ _).then_ fun _ i => ?_
    rw [kt_isT (h.at_ i), kt_isT (h.at_ i)]
    split
    · exact Or.inr (Or.inl ⟨_, rfl, rfl⟩)
    split
    · exact hp _ _ _
    · exact RelR.err 5 i
theorem P_rel (h : AlkT L L') : ∀ f, RelO L L' (P L f) (P L' f)
  | 0 => fun _ _ _ => Or.inl ⟨rfl, rfl⟩
  | f + 1 => step_rel h (P_rel h f)
theorem ParR.alike (h : AlkT L L') {i : Nat} {r : Except (Int × Int) (Fo × Nat)} (hr : ParR L i r) : (∃ x, r = .ok x ∧ ParR L' i (.ok x)) ∨ ∃ (c : Int) (m : Nat), r = .error (c, atP L m) ∧ ParR L' i (.error (c, atP L' m)) := by
  obtain ⟨f, hf⟩ := hr
  unfold parse at hf
  rcases P_rel h f (.bin 0) i 0 with ⟨h1, h2⟩ | ⟨⟨l, j⟩, h1, h2⟩ | ⟨c, m, h1, h2⟩
  · rw [h1] at hf; cases hf
  · rw [h1] at hf
    match l with
    | [] => cases hf
    | a :: b :: l => cases hf
    | [F] =>
      simp only [Option.some.injEq] at hf
      by_cases h5 : 5000 < F.size
      · rw [if_pos h5] at hf
        exact Or.inr ⟨7, i, hf.symm, f, by unfold parse; rw [h2]; simp [h5]⟩
      · rw [if_neg h5] at hf
        by_cases h6 : 40 < F.depth
        · rw [if_pos h6] at hf
          exact Or.inr ⟨6, i, hf.symm, f, by unfold parse; rw [h2]; simp [h5, h6]⟩
        · rw [if_neg h6] at hf
          exact Or.inl ⟨(F, j), hf.symm, f, by unfold parse; rw [h2]; simp [h5, h6]⟩
  · rw [h1] at hf
    simp only [Option.some.injEq] at hf
    exact Or.inr ⟨c, m, hf.symm, f, by unfold parse; rw [h2]⟩
end
end Px
end Go.Proofs.YtahalimekacliaaGreatDoor
