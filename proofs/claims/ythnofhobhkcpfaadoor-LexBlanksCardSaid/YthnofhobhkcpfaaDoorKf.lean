/- Lex: the walk. -/
import Derived.Test.YthnofhobhkcpfaaDoorKe
import Derived.Test.YthnofhobhkcpfaaDoorKb
import Derived.Test.YthnofhobhkcpfaaDoorSl
namespace Go.Proofs.YthnofhobhkcpfaaDoor
open Go.RowKit Go.Shelf

/-- A token in memory. -/
structure Tok where
  k : Nat
  t : ByteArray
  p : Nat
def tokC (x : Tok) : List Value := [.int .i64 x.k, .string x.t, .int .i64 x.p]
theorem tokC_len (x : Tok) : (tokC x).length = 3 := rfl
def tok (N : Nat) (x : Lx.R) : Tok := ⟨x.k, ⟨x.t.toArray⟩, N - x.m⟩
def toks (N : Nat) (l : List Lx.R) : List Tok := l.map (tok N)
theorem rowTok : RowTy Tryd.prog 23 33 3 32 := RowTy.mk' (z := .agg #[.int .i64 0, .string ⟨#[]⟩, .int .i64 0]) Tryd.underlying23 (by kernel_rfl) rfl (by omega)

def strLen : Value → Nat
  | .string r => r.size
  | _ => 0

/-- What Lex answers. -/
def LexPost (s : ByteArray) (w : World) (e : Ending) (w' : World) : Prop :=
  ∃ (v : Value) (er at_ : Int), e = .returned (.tuple #[v, .agg #[.int .i64 er, .int .i64 at_]]) ∧ Below w.heap.size w w' ∧
    ((er = 0 ∧ at_ = 0 ∧ (Lx.lexS s.data.toList).2 = none ∧ w'.ownsRow w.heap.size 33 3 v (Lx.lexS s.data.toList).1.length ((toks s.size (Lx.lexS s.data.toList).1).flatMap tokC)) ∨
     (∃ c m : Nat, c ≠ 0 ∧ er = c ∧ at_ = (s.size - m : Nat) ∧ (Lx.lexS s.data.toList).2 = some (c, m) ∧ v = .slice none 0 0))

/-- What a round of Lex keeps. -/
structure LexLp (s : ByteArray) (w : World) (l : Value) (r : ByteArray) (done : List Lx.R) (wr : World) : Prop where
  sz : r.size ≤ s.size
  few : done.length + r.size ≤ s.size
  below : Below w.heap.size w wr
  ret : wr.heap[w.heap.size]? = some (.cells #[.int .i64 0, .int .i64 0] 26 (0, 0))
  own : wr.ownsRow (w.heap.size + 1) 33 3 l done.length ((toks s.size done).flatMap tokC)
  eq : Lx.lexS s.data.toList = (done ++ (Lx.lexS r.data.toList).1, (Lx.lexS r.data.toList).2)

theorem trim_any (r : ByteArray) (w : World) :
    Calls Tryd.prog 19 #[.string r, .string ⟨#[32, 9, 10, 13]⟩] w fun e w' => ∃ u : ByteArray, e = .returned (.string u) ∧ u.data.toList = r.data.toList.dropWhile Lx.isBl ∧ Below w.heap.size w w' := by
  refine (Tryd.strings_TrimLeft_laid r ⟨#[32, 9, 10, 13]⟩ w (by decide) ?_).mono ?_
  · intro j b hb
    have : b ∈ ([32, 9, 10, 13] : List UInt8) := List.mem_of_getElem? hb
    simp at this
    rcases this with rfl | rfl | rfl | rfl <;> decide
  · rintro e w' ⟨rfl, hb⟩
    refine ⟨_, rfl, ?_, hb⟩
    show Lib.trimLeftS r.data.toList [32, 9, 10, 13] = _
    unfold Lib.trimLeftS
    congr 1
    funext c
    rw [Bool.eq_iff_iff]; simp [Lx.isBl, or_assoc]
theorem com_any (u : ByteArray) (w : World) :
    Calls Tryd.prog 20 #[.string u, .string ⟨#[45, 45]⟩] w fun e w' => e = .returned (.bool (Lx.isCom u.data.toList)) ∧ w' = w := Tryd.strings_HasPrefix u ⟨#[45, 45]⟩ w
theorem line_any (u : ByteArray) (hu : u.size ≤ 100000) (w : World) (G : Gl w) :
    Calls Tryd.prog 21 #[.string u, .string ⟨#[10]⟩] w fun e w' => ∃ (a t : ByteArray) (b : Bool), e = .returned (.tuple #[.string a, .string t, .bool b]) ∧ t.data.toList = Lx.afterLine u.data.toList ∧ Below w.heap.size w w' := by
  refine (Tryd.strings_Cut_shaped u ⟨#[10]⟩ w G.shaped (by omega)).mono ?_
  rintro e w' ⟨rfl, n, rfl⟩
  exact ⟨_, _, _, rfl, Lx.cut_line u.data.toList, below_drawn (Below.refl _ _) n⟩

theorem two_cells {W : World} {b T : Nat} {x y : Value} (h : W.heap[b]? = some (.cells #[x, y] T (0, 0))) :
    W.cell? ⟨b, 0, none⟩ = some x ∧ W.cell? ⟨b, 1, none⟩ = some y ∧ W.frozen? ⟨b, 0, none⟩ = false ∧ W.frozen? ⟨b, 1, none⟩ = false :=
  ⟨by simp [World.cell?, h], by simp [World.cell?, h], by simp [World.frozen?, h], by simp [World.frozen?, h]⟩
theorem size_of_list (r : ByteArray) : r.size = r.data.toList.length := (size_toList r).symm

theorem LexLp.step {s : ByteArray} {w : World} {l : Value} {r u : ByteArray} {done : List Lx.R} {wr w1 : World} (h : LexLp s w l r done wr) (hb : Below wr.heap.size wr w1) (hu : u.size ≤ r.size) (he : Lx.lexS u.data.toList = Lx.lexS r.data.toList) : LexLp s w l u done w1 where
  sz := Nat.le_trans hu h.sz
  few := Nat.le_trans (Nat.add_le_add_left hu _) h.few
  below := below_next h.below hb
  ret := (hb.block _ (Array.getElem?_eq_some_iff.1 h.ret).1).trans h.ret
  own := below_row hb h.own
  eq := by rw [he]; exact h.eq

theorem LexLp.push {s : ByteArray} {w : World} {l : Value} {u u' t : ByteArray} {done : List Lx.R} {w3 w4 : World} {o : Obj} {g cap k d : Nat} (h : LexLp s w l u done w3) (hd : (s.size : Int) - (u.size : Int) = (d : Int)) (hne : t.data.toList ≠ []) (hle : t.size ≤ u.size)
    (he : Lx.lexS u.data.toList = (⟨k, t.data.toList, u.data.toList.length⟩ :: (Lx.lexS (u.data.toList.drop t.data.toList.length)).1, (Lx.lexS (u.data.toList.drop t.data.toList.length)).2))
    (hu : u'.data.toList = u.data.toList.drop t.data.toList.length)
    (ho : w4.ownsRow (w.heap.size + 1) 33 3 (.slice (some ⟨g, 0, none⟩) (done.length + 1) cap) (done.length + 1) ((toks s.size done).flatMap tokC ++ [.int .i64 k, .string t, .int .i64 d])) (hg : (w3.alloc o).grownBy w4 l.ownBlock) :
    LexLp s w (.slice (some ⟨g, 0, none⟩) (done.length + 1) cap) u' (done ++ [⟨k, t.data.toList, u.data.toList.length⟩]) w4 := by
  have hsz := h.sz
  have hpos : 0 < t.size := by rw [size_of_list]; exact List.length_pos_iff.2 hne
  have hu2 : u'.size = u.size - t.size := by rw [size_of_list, hu, List.length_drop, size_toList, size_toList]
  have hlow : ∀ k, l.ownBlock = some k → w.heap.size + 1 ≤ k := fun k hk => (h.own.lt k hk).1
  have hsize := h.below.size
  have hret := (Array.getElem?_eq_some_iff.1 h.ret).1
  refine ⟨by omega, ?_, ?_, ?_, ?_, ?_⟩
  · have := h.few; simp; omega
  · exact (h.below.alloc hsize o).grown hg (by simp; omega) (fun q hq => by have := hlow q hq; omega)
  · rw [hg.block w.heap.size (by simp; omega) (fun e => by have := hlow _ e.symm; omega), Below.heap_alloc _ _ _ hret]; exact h.ret
  · have e : (toks s.size (done ++ [⟨k, t.data.toList, u.data.toList.length⟩])).flatMap tokC = (toks s.size done).flatMap tokC ++ [.int .i64 k, .string t, .int .i64 d] := by
      unfold toks
      rw [List.map_append, List.flatMap_append]
      congr 1
      have e2 : s.size - u.size = d := by omega
      simp [tok, tokC, e2]
    rw [e]
    simpa using ho
  · rw [h.eq, he, hu]; simp

set_option maxRecDepth 100000 in
set_option maxHeartbeats 2000000 in
theorem Lex_any (s : ByteArray) (hs : s.size ≤ 100000) (w : World) (G : Gl w) :
    Calls Tryd.prog 10 #[.string s] w (LexPost s w) := by
  have hR := heap_alloc_new w (.cells #[.int .i64 0, .int .i64 0] 26)
  go_enter Tryd.func10, Tryd.ntmps10
  go_wp2_with fail
  go_loopw [4, 5] (fun l rest wr => ∃ (r : ByteArray) (done : List Lx.R), rest = .string r ∧ LexLp s w l r done wr) (fun _ rest _ => strLen rest)
  case atStart => exact ⟨s, [], rfl, Nat.le_refl _, by simp, (Below.refl _ _).alloc (Nat.le_refl _) _, hR, World.ownsRow_nil _ _ _ _, by simp⟩
  case round =>
    obtain ⟨r, done, rfl, LP⟩ := hrel
    clear hR
    go_wp2_with fail
    refine (trim_any r wr).mono ?_
    rintro e w1 ⟨u, rfl, hu, hb1⟩
    have hur : u.size ≤ r.size := by rw [size_of_list, size_of_list, hu]; exact Lx.blank_len _
    have LP1 : LexLp s w u4 u done w1 := LP.step hb1 hur (by rw [hu, ← Lx.lexS_drop])
    have HB : Hid (u.data.toList.dropWhile Lx.isBl = u.data.toList) := by show _ = _; rw [hu]; exact Lx.fix_drop _
    clear hu hb1 LP
    by_cases he : u.toList = []
    · have he2 : (!u.toList.isEmpty) = false := by simp [he]
      have HE : Hid (u.data.toList = []) := toList_nil.1 he
      obtain ⟨c0, c1, f0, f1⟩ := two_cells LP1.ret
      go_wp2_with fail
      refine bodyPost_ret (v := .tuple #[u4, .agg #[.int .i64 0, .int .i64 0]]) (by simp [results, Tryd.results10, go_sem, c0, c1]) rfl ?_
      have hq : Lx.lexS s.data.toList = (done, none) := by rw [LP1.eq, HE.out, Lx.lexS_nil]; simp
      refine ⟨_, _, _, rfl, (LP1.below.setCell (Nat.le_refl _) _).setCell (Nat.le_refl _) _, Or.inl ⟨rfl, rfl, by rw [hq], ?_⟩⟩
      rw [hq]
      exact (ownsRow_setCell_below (ownsRow_setCell_below LP1.own (by simp) _) (by simp) _).mono (by omega)
    have he2 : u.toList.isEmpty = false := by simp [he]
    have HE : Hid (u.data.toList ≠ []) := fun h => he (toList_nil.2 h)
    go_wp2_with fail
    refine (com_any u w1).mono ?_
    rintro e w2 ⟨rfl, hW⟩
    subst hW
    obtain ⟨bc, hbc⟩ : ∃ bc, bc = Lx.isCom u.data.toList := ⟨_, rfl⟩
    rw [← hbc]
    have HC : Hid (Lx.isCom u.data.toList = bc) := hbc.symm
    clear hbc
    have hsz := LP1.sz
    cases bc
    · obtain ⟨d, hd⟩ : ∃ d : Nat, (s.size : Int) - (u.size : Int) = (d : Int) := ⟨s.size - u.size, by omega⟩
      go_wp2_with fail
      refine (first_any u (by omega) w2 (G.below LP1.below)).mono ?_
      rintro e w3 ⟨k, er, t, rfl, hor, hb3⟩
      have LP3 := LP1.step hb3 (Nat.le_refl _) rfl
      clear LP1 hb3
      rcases hor with ⟨rfl, hf⟩ | ⟨hne, hf⟩
      · have hpr := (Lx.first_tok hf).1
        have htn : t.data.toList ≠ [] := (Lx.first_tok hf).2.resolve_right HE.out
        have htl : t.size ≤ u.size := by rw [size_of_list, size_of_list]; exact hpr.length_le
        have HT : Hid (Lx.lexS u.data.toList = _) := Lx.lexS_tok HB.out HE.out HC.out hf
        have HN : Hid (t.data.toList ≠ []) := htn
        have hfw := LP3.few
        have hlb := LP3.below.size
        have hre := (Array.getElem?_eq_some_iff.1 LP3.ret).1
        clear hpr htn hf
        go_wp2_with (at_builtin; refine wpList_app rowTok rfl _ _ rfl (w.heap.size + 1) _ _ _ rfl (LP3.own.alloc _) ⟨w3.heap.size, 0, none⟩ 1 [.int .i64 k, .string t, .int .i64 d] rfl rfl ?c1 ?c2 ?c3 ?c4 (w3.heap.size + 1) ?c5 ?_)
        case c1 => exact World.news_of_block (heap_alloc_new w3 _)
        case c2 => simp [Value.oneCell']
        case c3 => omega
        case c4 => simp; omega
        case c5 => simp
        intro g cap w4 hown hgrow hat hlt hcap
        have LP4 := LP3.push (u' := u.extract t.size u.size) hd HN.out htl HT.out (by rw [extract_drop, size_toList]) hown hgrow
        clear hown hgrow hat LP3 hfw hlb hre
        have hpos : 0 < t.size := by rw [size_of_list]; exact List.length_pos_iff.2 HN.out
        go_wp2_with fail
        go_roundw
        case rel => exact ⟨_, _, rfl, LP4⟩
        case measure => simp [strLen]; omega
      · have hne2 : ((er : Int) != 0) = true := by rw [bne_iff_ne]; omega
        obtain ⟨c0, c1, f0, f1⟩ := two_cells LP3.ret
        have HN : Hid (er ≠ 0) := hne
        have HT : Hid (Lx.lexS u.data.toList = _) := Lx.lexS_err HB.out HE.out HC.out hf
        clear hne hf
        go_wp2_with fail
        refine bodyPost_ret (v := .tuple #[.slice none 0 0, .agg #[.int .i64 er, .int .i64 d]]) (by simp [results, Tryd.results10, go_sem, c0, c1]) rfl ?_
        have hq : (Lx.lexS s.data.toList).2 = some (er, u.data.toList.length) := by rw [LP3.eq, HT.out]
        exact ⟨_, _, _, rfl, (LP3.below.setCell (Nat.le_refl _) _).setCell (Nat.le_refl _) _, Or.inr ⟨er, _, HN.out, rfl, by rw [size_toList]; omega, hq, rfl⟩⟩
    · go_wp2_with fail
      refine (line_any u (by omega) w2 (G.below LP1.below)).mono ?_
      rintro e w3 ⟨a, t, b, rfl, ht, hb3⟩
      have htu : t.size < u.size := by rw [size_of_list, size_of_list, ht]; exact Lx.after_len HE.out
      have LP3 : LexLp s w u4 t done w3 := LP1.step hb3 (Nat.le_of_lt htu) (by rw [ht, ← Lx.lexS_com HB.out HE.out HC.out])
      clear LP1 hb3 ht
      go_wp2_with fail
      go_roundw
      case rel => exact ⟨t, done, rfl, LP3⟩
      case measure => simp [strLen]; omega
end Go.Proofs.YthnofhobhkcpfaaDoor
