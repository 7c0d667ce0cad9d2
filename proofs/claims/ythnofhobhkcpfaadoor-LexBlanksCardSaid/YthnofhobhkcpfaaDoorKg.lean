/- Join of the lexer: the walk. -/
import Derived.Test.YthnofhobhkcpfaaDoorKf
import Derived.Test.YthnofhobhkcpfaaDoorBw
namespace Go.Proofs.YthnofhobhkcpfaaDoor
open Go.RowKit Go.Shelf

namespace Lx
theorem join_snoc (l : List Bs) (t : Bs) : join (l ++ [t]) = if l = [] then t else join l ++ 32 :: t := by
  induction l with
  | nil => rfl
  | cons a l ih =>
    cases l with
    | nil => simp [join]
    | cons b l =>
      have e : (a :: b :: l) ++ [t] = a :: ((b :: l) ++ [t]) := rfl
      have e2 : ∀ m : List Bs, m ≠ [] → join (a :: m) = a ++ 32 :: join m := by
        intro m hm
        cases m with
        | nil => exact absurd rfl hm
        | cons _ _ => rfl
      rw [e, e2 _ (by simp), ih, if_neg (by simp), if_neg (by simp), e2 (b :: l) (by simp)]
      simp
theorem sum_take (f : Bs → Nat) : ∀ (l : List Bs) (k : Nat) (t : Bs), l[k]? = some t → ((l.take k).map f).sum + f t ≤ (l.map f).sum
  | [], k, t, h => by simp at h
  | a :: l, 0, t, h => by simp at h; subst h; simp
  | a :: l, k + 1, t, h => by
    have := sum_take f l k t (by simpa using h)
    simp only [List.take_succ_cons, List.map_cons, List.sum_cons]; omega
/-- How long all texts are. -/
def room (l : List Bs) : Nat := (l.map (fun t => t.length + 1)).sum
theorem lexS_room : ∀ r, room ((lexS r).1.map (·.t)) ≤ 2 * r.length := by
  refine lex_ind ?_ ?_ ?_ ?_ ?_
  · rw [lexS_nil]; simp [room]
  · intro c r hb ih; rw [lexS_blank hb]; simp; omega
  · intro u hn hu hc ih; rw [lexS_com hn hu hc]; have := after_len hu; omega
  · intro u e hn hu hc he; rw [lexS_err hn hu hc he]; simp [room]
  · intro u k t hn hu hc ht hp hne ih
    rw [lexS_tok hn hu hc ht]
    have h1 := hp.length_le
    have h2 := List.length_pos_iff.2 hne
    simp only [room, List.map_cons, List.sum_cons, List.length_drop] at ih ⊢
    omega
theorem lexS_count : ∀ r, (lexS r).1.length ≤ r.length := by
  refine lex_ind ?_ ?_ ?_ ?_ ?_
  · rw [lexS_nil]; simp
  · intro c r hb ih; rw [lexS_blank hb]; simp; omega
  · intro u hn hu hc ih; rw [lexS_com hn hu hc]; have := after_len hu; omega
  · intro u e hn hu hc he; rw [lexS_err hn hu hc he]; simp
  · intro u k t hn hu hc ht hp hne ih
    rw [lexS_tok hn hu hc ht]
    have h2 := drop_len hp hne
    simp only [List.length_cons] at ih ⊢; omega
end Lx

def texts (l : List Tok) : List Lx.Bs := l.map (fun x => x.t.data.toList)

/-- What a round of Join keeps. -/
structure JnLp (w : World) (l : List Tok) (k : Nat) (wr : World) : Prop where
  below : Below w.heap.size w wr
  bld : Lib.IsBuilderF 53 5 w.heap.size w.heap.size (Lib.byteCells (Lx.join ((texts l).take k))) wr

set_option maxRecDepth 100000 in
set_option maxHeartbeats 2000000 in
theorem Join_any (w : World) (v : Value) (l : List Tok) (hv : Sl tokC 3 w v l) (hl : Lx.room (texts l) ≤ 1000000) :
    Calls Tryd.prog 17 #[v] w fun e w' => e = .returned (.string ⟨(Lx.join (texts l)).toArray⟩) ∧ Below w.heap.size w w' := by
  obtain ⟨a, c, rfl, hlc, hcell⟩ := hv.form
  obtain ⟨n, hn⟩ : ∃ n, n = l.length := ⟨_, rfl⟩
  have hn2 : n ≤ 1000000 := by
    have : ∀ m : List Lx.Bs, m.length ≤ Lx.room m := by
      intro m; induction m with
      | nil => simp [Lx.room]
      | cons a m ih => simp only [Lx.room, List.map_cons, List.sum_cons, List.length_cons] at ih ⊢; omega
    have h3 := this (texts l)
    have h4 : (texts l).length = l.length := by simp [texts]
    omega
  rw [← hn] at hlc ⊢
  have HN : Hid (n = l.length) := hn
  clear hn hv
  have hnew := bld_new w
  go_enter Tryd.func17, Tryd.ntmps17
  go_wp2_with fail
  go_loopw [8] (fun i wr => ∃ k : Nat, k ≤ n ∧ i = .int .i64 k ∧ JnLp w l k wr) (fun i _ => n - (intOf i).toNat)
  case atStart => exact ⟨0, Nat.zero_le _, rfl, (Below.refl _ _).alloc (Nat.le_refl _) _, hnew⟩
  case round =>
    obtain ⟨k, hk, rfl, LP⟩ := hrel
    clear hnew
    by_cases hlt : k < n
    · obtain ⟨x, hx⟩ : ∃ x, l[k]? = some x := ⟨_, List.getElem?_eq_getElem (by have := HN.out; omega)⟩
      obtain ⟨b, o, rfl, hc⟩ := hcell wr LP.below k x hx
      have c0 : wr.cell? ⟨b, o + k * 3, none⟩ = some (.int .i64 x.k) := hc 0 _ rfl
      have c1 : wr.cell? ⟨b, o + k * 3 + 1, none⟩ = some (.string x.t) := hc 1 _ rfl
      have c2 : wr.cell? ⟨b, o + k * 3 + 2, none⟩ = some (.int .i64 x.p) := hc 2 _ rfl
      have hlo := LP.below.size
      have hst : w.heap.size < wr.heap.size := by rcases LP.bld with h | h <;> exact h.lt
      have hkn : (k : Int) < (n : Int) := by omega
      obtain ⟨xk, hxk⟩ : ∃ q, q = x.k := ⟨_, rfl⟩
      obtain ⟨xt, hxt⟩ : ∃ q, q = x.t := ⟨_, rfl⟩
      obtain ⟨xp, hxp⟩ : ∃ q, q = x.p := ⟨_, rfl⟩
      rw [← hxk] at c0
      rw [← hxt] at c1
      rw [← hxp] at c2
      have HX : Hid (l[k]? = some x ∧ xt = x.t) := ⟨hx, hxt⟩
      have hroom : (Lx.join ((texts l).take k)).length + xt.size + 1 ≤ 1000000 := by
        have h1 := Lx.join_length ((texts l).take k)
        have h2 := Lx.sum_take (fun t => t.length + 1) (texts l) k xt.data.toList (by simp [texts, hx, hxt])
        have h3 : ((texts l).map (fun t => t.length + 1)).sum = Lx.room (texts l) := rfl
        have h4 := size_toList xt
        omega
      have HS : Hid (Lx.join ((texts l).take (k + 1)) = if k = 0 then xt.data.toList else Lx.join ((texts l).take k) ++ 32 :: xt.data.toList) := by
        show _ = _
        have e : (texts l).take (k + 1) = (texts l).take k ++ [xt.data.toList] := by
          rw [List.take_add_one]; simp [texts, hx, hxt]
        rw [e, Lx.join_snoc]
        have : (texts l).take k = [] ↔ k = 0 := by
          have hl2 : (texts l).length = n := by have := HN.out; simp [texts]; omega
          constructor
          · intro h
            have := congrArg List.length h
            rw [List.length_take, List.length_nil] at this; omega
          · rintro rfl; rfl
        simp only [this]
      clear hx hxk hxt hxp hc hcell
      have hB := LP.bld.alloc (.cells #[.int .i64 xk, .string xt, .int .i64 xp] 33)
      have hnew := heap_alloc_new wr (.cells #[.int .i64 xk, .string xt, .int .i64 xp] 33)
      have hBB := LP.below.alloc hlo (.cells #[.int .i64 xk, .string xt, .int .i64 xp] 33)
      obtain ⟨J, hJ⟩ : ∃ J, J = Lx.join ((texts l).take k) := ⟨_, rfl⟩
      rw [← hJ] at hB hroom HS
      by_cases hk0 : k = 0
      · have hJ0 : J = [] := by rw [hJ, hk0]; rfl
        subst hJ0
        rw [if_pos hk0] at HS
        have hk1 : ¬ 0 < k := by omega
        clear hJ LP hk0
        go_wp2_with fail
        refine (bld_string w.heap.size w.heap.size [] xt _ hB (by simp; omega) (by simp; omega)).mono ?_
        rintro e w2 ⟨rfl, h1, h2, -⟩
        go_wp2_with fail
        go_roundw
        case rel => exact ⟨k + 1, by omega, by go_num, hBB.trans h2, by rw [HS.out]; exact h1⟩
        case measure => simp [intOf]; omega
      · have hk0' : 0 < k := by omega
        rw [if_neg hk0] at HS
        clear hJ LP hk0
        go_wp2_with fail
        refine (bld_byte w.heap.size w.heap.size J 32 32 rfl _ hB (by omega) (by simp; omega)).mono ?_
        rintro e w2 ⟨rfl, h1, h2, h3⟩
        have hnew2 := h3 wr.heap.size _ hnew (by simp; omega) (by intro c fz q; cases q)
        have hc1 : w2.cell? ⟨wr.heap.size, 1, none⟩ = some (.string xt) := by simp [World.cell?, hnew2]
        have hsz2 := h2.size
        have hBB2 := hBB.trans h2
        clear h2 h3 hnew hnew2 hB hBB
        generalize wr.heap.size = tb at hc1 ⊢
        go_wp2_with fail
        refine (bld_string w.heap.size w.heap.size _ xt _ h1 (by simp; omega) hBB2.size).mono ?_
        rintro e w3 ⟨rfl, h4, h5, -⟩
        go_wp2_with fail
        go_roundw
        case rel => exact ⟨k + 1, by omega, by go_num, hBB2.trans h5, by rw [HS.out]; simpa using h4⟩
        case measure => simp [intOf]; omega
    · have hke : k = n := by omega
      subst hke
      have hT : (texts l).take k = texts l := List.take_of_length_le (by have := HN.out; simp [texts]; omega)
      have hB := LP.bld
      rw [hT] at hB
      have hBB := LP.below
      clear hT LP hcell
      go_wp2_with fail
      refine (Tryd.Builder_String_any_k w.heap.size w.heap.size _ wr hB hBB.size).mono ?_
      rintro e w2 ⟨rfl, -, h2, -⟩
      go_wp2_with fail
      go_ret
      exact ⟨rfl, hBB.trans h2⟩
end Go.Proofs.YthnofhobhkcpfaaDoor
