/- Lex: the walk. The program's reader of expressions: the number of a within; what is deferred: the walk. The reference's reader of expressions: a call's arguments: the walk. The program's reader of expressions: a whole expression; a call's arguments: the walk. (Printed by gen/expargs.py out of the reference's walk.) The reference's reader of expressions: names and calls, what begins an operand: the walk. -/
import Derived.Deep.RegionHeld3
import Derived.Defers
import Derived.Test.YtahalimekacliaaGreatDoorJ1
import Derived.Test.YtahalimekacliaaGreatDoorJ10
import Derived.Test.YtahalimekacliaaGreatDoorJ12
import Derived.Test.YtahalimekacliaaGreatDoorJ14
import Derived.Test.YtahalimekacliaaGreatDoorJ15
set_option linter.unusedVariables false
set_option linter.unusedSimpArgs false
namespace Go.Proofs.YtahalimekacliaaGreatDoor
open Go.RowKit Go.Shelf
theorem trim_any (r : ByteArray) (w : World) :
    Calls Tryz.prog 32 #[.string r, .string ⟨#[32, 9, 10, 13]⟩] w fun e w' => ∃ u : ByteArray, e = .returned (.string u) ∧ u.data.toList = r.data.toList.dropWhile Lx.isBl ∧ Below w.heap.size w w' := by
  refine (Tryz.strings_TrimLeft_laid r ⟨#[32, 9, 10, 13]⟩ w (by decide) ?_).mono ?_
  · intro j b hb
    have : b ∈ ([32, 9, 10, 13] : List UInt8) := List.mem_of_getElem? hb
    simp at this
    rcases this with rfl | rfl | rfl | rfl <;> decide
  · rintro e w' ⟨rfl, hb⟩
    refine ⟨_, rfl, ?_, hb⟩
    show Lib.trimLeftS r.data.toList [32, 9, 10, 13] = _
    unfold Lib.trimLeftS
    congr 1
    funext c
    rw [Bool.eq_iff_iff]; simp [Lx.isBl, or_assoc]
theorem com_any (u : ByteArray) (w : World) :
    Calls Tryz.prog 33 #[.string u, .string ⟨#[45, 45]⟩] w fun e w' => e = .returned (.bool (Lx.isCom u.data.toList)) ∧ w' = w := Tryz.strings_HasPrefix u ⟨#[45, 45]⟩ w
theorem line_any (u : ByteArray) (hu : u.size ≤ 100000) (w : World) (G : Gl w) :
    Calls Tryz.prog 34 #[.string u, .string ⟨#[10]⟩] w fun e w' => ∃ (a t : ByteArray) (b : Bool), e = .returned (.tuple #[.string a, .string t, .bool b]) ∧ t.data.toList = Lx.afterLine u.data.toList ∧ Below w.heap.size w w' := by
  refine (Tryz.strings_Cut_shaped u ⟨#[10]⟩ w G.shaped (by omega)).mono ?_
  rintro e w' ⟨rfl, n, rfl⟩
  exact ⟨_, _, _, rfl, Lx.cut_line u.data.toList, below_drawn (Below.refl _ _) n⟩
set_option maxRecDepth 100000 in
set_option maxHeartbeats 2000000 in
theorem Lex_any (s : ByteArray) (hs : s.size ≤ 100000) (w : World) (G : Gl w) :
    Calls Tryz.prog 15 #[.string s] w (LexPost s w) := by
  have hR := heap_alloc_new w (.cells #[.int .i64 0, .int .i64 0] 25)
  go_enter Tryz.func15, Tryz.ntmps15
  go_wp2_with fail
  go_loopw [4, 5] (fun l rest wr => ∃ (r : ByteArray) (done : List Lx.R), rest = .string r ∧ LexLp s w l r done wr) (fun _ rest _ => strLen rest)
  case atStart => exact ⟨s, [], rfl, Nat.le_refl _, by simp, (Below.refl _ _).alloc (Nat.le_refl _) _, hR, World.ownsRow_nil _ _ _ _, by simp⟩
  case round =>
    obtain ⟨r, done, rfl, LP⟩ := hrel
    clear hR
    go_wp2_with fail
    refine (trim_any r wr).mono ?_
    rintro e w1 ⟨u, rfl, hu, hb1⟩
    have hur : u.size ≤ r.size := by rw [size_of_list, size_of_list, hu]; exact Lx.blank_len _
    have LP1 : LexLp s w u4 u done w1 := LP.step hb1 hur (by rw [hu, ← Lx.lexS_drop])
    have HB : Hid (u.data.toList.dropWhile Lx.isBl = u.data.toList) := by show _ = _; rw [hu]; exact Lx.fix_drop _
    clear hu hb1 LP
    by_cases he : u.toList = []
    · have he2 : (!u.toList.isEmpty) = false := by simp [he]
      have HE : Hid (u.data.toList = []) := toList_nil.1 he
      obtain ⟨c0, c1, f0, f1⟩ := two_cells LP1.ret
      go_wp2_with fail
      refine bodyPost_ret (v := .tuple #[u4, .agg #[.int .i64 0, .int .i64 0]]) (by simp [results, Tryz.results15, go_sem, c0, c1]) rfl ?_
      have hq : Lx.lexS s.data.toList = (done, none) := by rw [LP1.eq, HE.out, Lx.lexS_nil]; simp
      refine ⟨_, _, _, rfl, (LP1.below.setCell (Nat.le_refl _) _).setCell (Nat.le_refl _) _, Or.inl ⟨rfl, rfl, by rw [hq], ?_⟩⟩
      rw [hq]
      exact (ownsRow_setCell_below (ownsRow_setCell_below LP1.own (by simp) _) (by simp) _).mono (by omega)
    have he2 : u.toList.isEmpty = false := by simp [he]
    have HE : Hid (u.data.toList ≠ []) := fun h => he (toList_nil.2 h)
    go_wp2_with fail
    refine (com_any u w1).mono ?_
    rintro e w2 ⟨rfl, hW⟩
    subst hW
    obtain ⟨bc, hbc⟩ : ∃ bc, bc = Lx.isCom u.data.toList := ⟨_, rfl⟩
    rw [← hbc]
    have HC : Hid (Lx.isCom u.data.toList = bc) := hbc.symm
    clear hbc
    have hsz := LP1.sz
    cases bc
    · obtain ⟨d, hd⟩ : ∃ d : Nat, (s.size : Int) - (u.size : Int) = (d : Int) := ⟨s.size - u.size, by omega⟩
      go_wp2_with fail
      refine (first_any u (by omega) w2 (G.below LP1.below)).mono ?_
      rintro e w3 ⟨k, er, t, rfl, hor, hb3⟩
      have LP3 := LP1.step hb3 (Nat.le_refl _) rfl
      clear LP1 hb3
      rcases hor with ⟨rfl, hf⟩ | ⟨hne, hf⟩
      · have hpr := (Lx.first_tok hf).1
        have htn : t.data.toList ≠ [] := (Lx.first_tok hf).2.resolve_right HE.out
        have htl : t.size ≤ u.size := by rw [size_of_list, size_of_list]; exact hpr.length_le
        have HT : Hid (Lx.lexS u.data.toList = _) := Lx.lexS_tok HB.out HE.out HC.out hf
        have HN : Hid (t.data.toList ≠ []) := htn
        have hfw := LP3.few
        have hlb := LP3.below.size
        have hre := (Array.getElem?_eq_some_iff.1 LP3.ret).1
        clear hpr htn hf
        go_wp2_with (at_builtin; refine wpList_app rowTok rfl _ _ rfl (w.heap.size + 1) _ _ _ rfl (LP3.own.alloc _) ⟨w3.heap.size, 0, none⟩ 1 [.int .i64 k, .string t, .int .i64 d] rfl rfl ?c1 ?c2 ?c3 ?c4 (w3.heap.size + 1) ?c5 ?_)
        case c1 => exact World.news_of_block (heap_alloc_new w3 _)
        case c2 => simp [Value.oneCell']
        case c3 => omega
        case c4 => simp; omega
        case c5 => simp
        intro g cap w4 hown hgrow hat hlt hcap
        have LP4 := LP3.push (u' := u.extract t.size u.size) hd HN.out htl HT.out (by rw [extract_drop, size_toList]) hown hgrow
        clear hown hgrow hat LP3 hfw hlb hre
        have hpos : 0 < t.size := by rw [size_of_list]; exact List.length_pos_iff.2 HN.out
        go_wp2_with fail
        go_roundw
        case rel => exact ⟨_, _, rfl, LP4⟩
        case measure => simp [strLen]; omega
      · have hne2 : ((er : Int) != 0) = true := by rw [bne_iff_ne]; omega
        obtain ⟨c0, c1, f0, f1⟩ := two_cells LP3.ret
        have HN : Hid (er ≠ 0) := hne
        have HT : Hid (Lx.lexS u.data.toList = _) := Lx.lexS_err HB.out HE.out HC.out hf
        clear hne hf
        go_wp2_with fail
        refine bodyPost_ret (v := .tuple #[.slice none 0 0, .agg #[.int .i64 er, .int .i64 d]]) (by simp [results, Tryz.results15, go_sem, c0, c1]) rfl ?_
        have hq : (Lx.lexS s.data.toList).2 = some (er, u.data.toList.length) := by rw [LP3.eq, HT.out]
        exact ⟨_, _, _, rfl, (LP3.below.setCell (Nat.le_refl _) _).setCell (Nat.le_refl _) _, Or.inr ⟨er, _, HN.out, rfl, by rw [size_toList]; omega, hq, rfl⟩⟩
    · go_wp2_with fail
      refine (line_any u (by omega) w2 (G.below LP1.below)).mono ?_
      rintro e w3 ⟨a, t, b, rfl, ht, hb3⟩
      have htu : t.size < u.size := by rw [size_of_list, size_of_list, ht]; exact Lx.after_len HE.out
      have LP3 : LexLp s w u4 t done w3 := LP1.step hb3 (Nat.le_of_lt htu) (by rw [ht, ← Lx.lexS_com HB.out HE.out HC.out])
      clear LP1 hb3 ht
      go_wp2_with fail
      go_roundw
      case rel => exact ⟨t, done, rfl, LP3⟩
      case measure => simp [strLen]; omega
end Go.Proofs.YtahalimekacliaaGreatDoor
namespace Go.Proofs.YtahalimekacliaaGreatDoor
open Go.RowKit Go.Shelf Tx Px
def NumPost (L : List Tok) (rb : Nat) (tv lv pm : Value) (I : Nat) (o p : Int) (v : Nat) (w : World) (e : Ending) (w' : World) : Prop :=
  Al rb w w' ∧ ((v ≤ 1000 ∧ e = .returned (.int .i64 v) ∧ Re w' rb tv ((I : Int) + 1) o 0 p lv pm) ∨ (1000 < v ∧ e = .returned (.int .i64 0) ∧ Re w' rb tv I o 5 (atP L I) lv pm))
theorem atoi_below {w w2 : World} (h : w2 = w ∨ ∃ t, w2 = Lib.bytesWorld w 5 t) : Below w.heap.size w w2 := by
  rcases h with h | ⟨t, h⟩
  · rw [h]; exact Below.refl _ _
  · rw [h]; exact Lib.bytesWorld_below _ _ _
section
variable {L : List Tok} {a : Option Addr} {cc rb : Nat} {w0 : World} {lv pm : Value}
set_option maxRecDepth 100000 in
set_option maxHeartbeats 4000000 in
theorem number_num (EV : Hid (EnvOk w0 rb a cc L)) (I : Nat) (hI : I ≤ 200000) (o p : Int) (x : Tok) (hx : L[I]? = some x) (hk : x.k = 2) (w : World) (hB : Al rb w0 w) (hR : Re w rb (.slice a L.length cc) I o 0 p lv pm) :
    Calls Tryz.prog 130 #[.pointer (some ⟨rb, 0, none⟩)] w (NumPost L rb (.slice a L.length cc) lv pm I o p (Lx.val x.t.data.toList) w) := by
  obtain ⟨c0, c1, c2, c3, c4, c5, c6⟩ := hR.cells
  have hi1 : (0 : Int) ≤ (I : Int) := by omega
  have htok := (EV.out.ok x (List.mem_of_getElem? hx)).num hk
  obtain ⟨b, q, rfl, d0, d1, d2⟩ := EV.out.tok w hB I x hx
  have hlt : I < L.length := (List.getElem?_eq_some_iff.1 hx).1
  have h2 : (I : Int) < (L.length : Int) := by omega
  rw [hk] at d0
  have hat := Lx.atoi_digits htok.1 htok.2.2.2 (by rw [size_toList]; exact htok.2.2.1)
  have hatoi := fun W => Tryz.strconv_Atoi_ok x.t (by have := htok.2.2.1; omega) (Lx.val x.t.data.toList : Nat) hat W
  have hf := fun W (hW : Below w.heap.size w W) => efail_yes EV I hI o p 5 W (hB.then hW) (hR.below hW)
  have HR := Lib.hid hR
  have HB := Lib.hid hB
  have HLT := Lib.hid (And.intro hlt EV.out.len)
  obtain ⟨vv, hvv⟩ : ∃ vv, vv = Lx.val x.t.data.toList := ⟨_, rfl⟩
  rw [← hvv] at hatoi ⊢
  have hv2 : vv ≤ 2147483647 := by rw [hvv]; exact htok.2.1
  have hd1 : decide (I < L.length) = true := by simp; omega
  clear hB hR hx hk htok hat hvv hI hlt EV d2
  go_enter Tryz.func130, Tryz.ntmps130
  go_wp2_with fail
  go_quiet (fail)
  go_wp2_with fail
  obtain ⟨W, hW⟩ : ∃ W, W = w.drewN nq := ⟨_, rfl⟩
  have hb1 : Below w.heap.size w W := by rw [hW]; exact below_drawn (Below.refl _ _) _
  have e0 : W.cell? ⟨rb, 0, none⟩ = some (.slice (some ⟨b, q, none⟩) L.length cc) := by rw [hW]; exact c0
  have e1 : W.cell? ⟨rb, 1, none⟩ = some (.int .i64 I) := by rw [hW]; exact c1
  have e2 : W.cell? ⟨b, q + I * 3 + 1, none⟩ = some (.string x.t) := by rw [hW]; exact d1
  rw [← hW]
  clear hW c0 c1 c2 c3 c4 c5 c6 d0 d1
  have K0 : W.cell? ⟨rb, 0, none⟩ = some (.slice (some ⟨b, q, none⟩) L.length cc) ∧ W.cell? ⟨rb, 1, none⟩ = some (.int .i64 I) ∧ W.cell? ⟨b, q + I * 3 + 1, none⟩ = some (.string x.t) := ⟨e0, e1, e2⟩
  have K1 : W.drew.cell? ⟨rb, 0, none⟩ = some (.slice (some ⟨b, q, none⟩) L.length cc) ∧ W.drew.cell? ⟨rb, 1, none⟩ = some (.int .i64 I) ∧ W.drew.cell? ⟨b, q + I * 3 + 1, none⟩ = some (.string x.t) := K0
  go_region_held3 (fun w' => w'.cell? ⟨rb, 0, none⟩ = some (.slice (some ⟨b, q, none⟩) L.length cc) ∧ w'.cell? ⟨rb, 1, none⟩ = some (.int .i64 I) ∧ w'.cell? ⟨b, q + I * 3 + 1, none⟩ = some (.string x.t))
    (first | exact K2 | exact K1 | exact K0)
    ((go_at_call 57; refine (hatoi _).mono ?_; rintro r w2 ⟨rfl, hw2⟩; have hb2 : Below W.heap.size W w2 := (by first | exact below_next ((Below.refl W.heap.size W).drew) (atoi_below hw2) | exact atoi_below hw2); have K2 : w2.cell? ⟨rb, 0, none⟩ = some (.slice (some ⟨b, q, none⟩) L.length cc) ∧ w2.cell? ⟨rb, 1, none⟩ = some (.int .i64 I) ∧ w2.cell? ⟨b, q + I * 3 + 1, none⟩ = some (.string x.t) := ⟨(hb2.cell (World.block_lt_of_cell? _ _ e0)).trans e0, (hb2.cell (World.block_lt_of_cell? _ _ e1)).trans e1, (hb2.cell (World.block_lt_of_cell? _ _ e2)).trans e2⟩))
  have HR2 := Lib.hid (HR.out.below (below_next hb1 hb2))
  have HA2 : Hid (Al rb w w2) := Al.of (below_next hb1 hb2)
  have hf2 := hf w2 (below_next hb1 hb2)
  obtain ⟨c0, c1, c2, c3, c4, c5, c6⟩ := HR2.out.cells
  obtain ⟨f0, f1, f2, f3, f4⟩ := HR2.out.free
  clear hatoi hf hw2 hb2 K0 K1 K2 e0 e1 e2 hb1
  by_cases hv : vv ≤ 1000
  · have hv1 : (vv : Int) ≤ 1000 := by omega
    have hvd : decide (vv ≤ 1000) = true := by simp; omega
    have HSET := Lib.hid (HR2.out.setI ((I : Int) + 1))
    have HASET : Hid (Al rb w (w2.setCell ⟨rb, 1, none⟩ (.int .i64 ((I : Int) + 1)))) := HA2.out.set _ _
    obtain ⟨hI5, hI6⟩ := HLT.out
    have hL5 : (I : Int) + 1 ≤ 300000 := by omega
    go_wp2_with fail
    go_ret
    exact ⟨HASET.out, Or.inl ⟨hv, rfl, HSET.out⟩⟩
  · have hv1 : ¬ (vv : Int) ≤ 1000 := by omega
    have hvd : decide (vv ≤ 1000) = false := by simp; omega
    go_wp2_with fail
    refine hf2.mono ?_
    rintro r w3 ⟨rfl, hR3, hA3⟩
    have HR3 := Lib.hid hR3
    have HA3 := Lib.hid hA3
    clear hf2 hR3 hA3
    go_wp2_with fail
    go_ret
    exact ⟨HA2.out.next HA3.out, Or.inr ⟨by omega, rfl, HR3.out⟩⟩
set_option maxRecDepth 100000 in
set_option maxHeartbeats 4000000 in
theorem number_no (EV : Hid (EnvOk w0 rb a cc L)) (I : Nat) (hI : I ≤ 200000) (o p : Int) (hn : ∀ x, L[I]? = some x → x.k ≠ 2) (w : World) (hB : Al rb w0 w) (hR : Re w rb (.slice a L.length cc) I o 0 p lv pm) :
    Calls Tryz.prog 130 #[.pointer (some ⟨rb, 0, none⟩)] w fun e w' => Al rb w w' ∧ e = .returned (.int .i64 0) ∧ Re w' rb (.slice a L.length cc) I o 5 (atP L I) lv pm := by
  obtain ⟨c0, c1, c2, c3, c4, c5, c6⟩ := hR.cells
  have hi1 : (0 : Int) ≤ (I : Int) := by omega
  have hf := fun q => efail_yes EV I hI o p 5 (w.drewN q) (hB.drewN q) (hR.drewN q)
  by_cases h : I < L.length
  · obtain ⟨x, hx⟩ : ∃ x, L[I]? = some x := ⟨_, List.getElem?_eq_getElem h⟩
    obtain ⟨b, q, rfl, d0, d1, d2⟩ := EV.out.tok w hB I x hx
    have h2 : (I : Int) < (L.length : Int) := by omega
    have hk := hn x hx
    obtain ⟨k, hkk⟩ : ∃ k : Int, k = x.k := ⟨_, rfl⟩
    rw [← hkk] at d0
    have k3 : (k == 2) = false := by rw [beq_eq_false_iff_ne]; omega
    have hd1 : decide (I < L.length) = true := by simp; omega
    clear hB hR hx hn hk hkk EV h
    go_enter Tryz.func130, Tryz.ntmps130
    go_wp2_with fail
    go_quiet (fail)
    have hf2 := hf nq
    have HA : Hid (Al rb w (w.drewN nq)) := (Al.refl _ _).drewN nq
    clear hf
    generalize w.drewN nq = W at *
    clear c0 c1 c2 c3 c4 c5 c6 d0 d1 d2
    go_wp2_with fail
    refine hf2.mono ?_
    rintro r w3 ⟨rfl, hR3, hA3⟩
    have HR3 := Lib.hid hR3
    have HA3 := Lib.hid hA3
    clear hf2 hR3 hA3
    go_wp2_with fail
    go_ret
    exact ⟨HA.out.next HA3.out, rfl, HR3.out⟩
  · have h2 : (L.length : Int) ≤ (I : Int) := by omega
    have hd1 : decide (I < L.length) = false := by simp; omega
    clear hB hR hn EV h
    go_enter Tryz.func130, Tryz.ntmps130
    go_wp2_with fail
    go_quiet (fail)
    have hf2 := hf nq
    have HA : Hid (Al rb w (w.drewN nq)) := (Al.refl _ _).drewN nq
    clear hf
    generalize w.drewN nq = W at *
    clear c0 c1 c2 c3 c4 c5 c6
    go_wp2_with fail
    refine hf2.mono ?_
    rintro r w3 ⟨rfl, hR3, hA3⟩
    have HR3 := Lib.hid hR3
    have HA3 := Lib.hid hA3
    clear hf2 hR3 hA3
    go_wp2_with fail
    go_ret
    exact ⟨HA.out.next HA3.out, rfl, HR3.out⟩
set_option maxRecDepth 100000 in
theorem odefer_any (u : FrameMode) (W : World) (xb : Nat) (I o c p : Int) (tv : Value) (hx : W.cell? ⟨xb, 0, none⟩ = some (.pointer (some ⟨rb, 0, none⟩))) (hR : Re W rb tv I o c p lv pm) (ho : -1000 ≤ o ∧ o ≤ 1000) :
    CallsD Tryz.prog 127 #[.pointer (some ⟨xb, 0, none⟩)] u W fun e u' w' => u' = u ∧ (e = .returned (.tuple #[]) ∧ w' = W.setCell ⟨rb, 2, none⟩ (.int .i64 (o - 1))) := by
  obtain ⟨c0, c1, c2, c3, c4, c5, c6⟩ := hR.cells
  obtain ⟨f0, f1, f2, f3, f4⟩ := hR.free
  obtain ⟨ho1, ho2⟩ := ho
  clear hR
  go_enter_d Tryz.func127, Tryz.ntmps127
  go_wp2_with fail
  go_end0
  exact ⟨rfl, rfl⟩
end
end Go.Proofs.YtahalimekacliaaGreatDoor
namespace Go.Proofs.YtahalimekacliaaGreatDoor
open Go.RowKit Go.Shelf Tx Px
theorem args_cases {L : List Tok} {f i o : Nat} {l : List Fo} {r : Res} (h : P L f (.args l) i o = some r) :
    ∃ g, f = g + 1 ∧ ((∃ e, P L g (.bin 0) i o = some (.error e) ∧ r = .error e) ∨ ∃ a j, P L g (.bin 0) i o = some (.ok ([a], j)) ∧
      ((isT L j tRpar = true ∧ r = .ok (l ++ [a], j + 1)) ∨ (isT L j tRpar = false ∧ isT L j tComma = true ∧ P L g (.args (l ++ [a])) (j + 1) o = some r) ∨ (isT L j tRpar = false ∧ isT L j tComma = false ∧ r = .error (5, atP L j)))) := by
  cases f with
  | zero => cases h
  | succ g =>
    refine ⟨g, rfl, ?_⟩
    simp only [P, stepP] at h
    rcases thenE_some h with ⟨e, h1, h2⟩ | ⟨a, j, h1, h2⟩
    · exact Or.inl ⟨e, h1, h2⟩
    · refine Or.inr ⟨a, j, h1, ?_⟩
      split at h2
      · rename_i h3; exact Or.inl ⟨h3, (Option.some.inj h2).symm⟩
      rename_i h3
      split at h2
      · rename_i h4; exact Or.inr (Or.inl ⟨by simpa using h3, h4, h2⟩)
      · rename_i h4; exact Or.inr (Or.inr ⟨by simpa using h3, by simpa using h4, (Option.some.inj h2).symm⟩)
def RPosts (St : World → Int → Int → Int → Int → Prop) (rb : Nat) (o : Int) (w : World) (r : Res) (e : Ending) (w' : World) : Prop :=
  Al rb w w' ∧ match r with
  | .error (c, p) => ∃ (a : Option Addr) (n k i : Nat), e = .returned (.slice a n k) ∧ c ≠ 0 ∧ i ≤ 200000 ∧ St w' (i : Nat) o c p
  | .ok (l, i) => ∃ v, e = .returned v ∧ RwE w.heap.size w' v (l.map (Fo.flat 0)) ∧ St w' (i : Nat) o 0 0
def LpA (St : World → Int → Int → Int → Int → Prop) (L : List Tok) (rb base : Nat) (o : Nat) (w : World) (fu : Nat) (r : Res) (ov : Value) (wr : World) : Prop :=
  Al rb w wr ∧ ((∃ (Fs : List Fo) (i g : Nat), g < fu ∧ RwE base wr ov (Fs.map (Fo.flat 0)) ∧ (∀ F ∈ Fs, Px.Good F) ∧ (cat Fs).size + Fs.length ≤ 3 * i ∧ i ≤ L.length ∧ St wr (i : Nat) o 0 0 ∧ P L g (.args Fs) i o = some r) ∨
    ∃ (c p : Int) (a : Option Addr) (m k i : Nat), r = .error (c, p) ∧ c ≠ 0 ∧ i ≤ 200000 ∧ St wr (i : Nat) o c p ∧ ov = .slice a m k)
section
variable {L : List Tok} {a : Option Addr} {cc rb : Nat} {w0 : World}
end
end Go.Proofs.YtahalimekacliaaGreatDoor
namespace Go.Proofs.YtahalimekacliaaGreatDoor
open Go.RowKit Go.Shelf Tx Px
section
variable {L : List Tok} {a : Option Addr} {cc rb : Nat} {w0 : World} {lv pm : Value}
theorem e4take_yes (EV : Hid (EnvOk w0 rb a cc L)) (I : Nat) (hI : I ≤ 200000) (o p : Int) (s : ByteArray) (hs : isT L I s = true) (w : World) (hB : Al rb w0 w) (hR : Re w rb (.slice a L.length cc) I o 0 p lv pm) :
    Calls Tryz.prog 128 #[.pointer (some ⟨rb, 0, none⟩), .string s] w fun e w' => e = .returned (.bool true) ∧ Re w' rb (.slice a L.length cc) ((I : Int) + 1) o 0 p lv pm ∧ Al rb w w' := etake_yes EV I hI o p s hs w hB hR
theorem e4take_no (EV : Hid (EnvOk w0 rb a cc L)) (I : Nat) (hI : I ≤ 200000) (o c p : Int) (s : ByteArray) (hn : isT L I s = false ∨ c ≠ 0) (w : World) (hB : Al rb w0 w) (hR : Re w rb (.slice a L.length cc) I o c p lv pm) (hs : s ≠ noS := by decide) :
    Calls Tryz.prog 128 #[.pointer (some ⟨rb, 0, none⟩), .string s] w fun e w' => e = .returned (.bool false) ∧ Below w.heap.size w w' := (etake_no EV I hI o c p s hs hn w hB hR).mono fun _ _ ⟨h1, q, h2⟩ => ⟨h1, by rw [h2]; exact below_drawn (Below.refl _ _) _⟩
theorem e4need_yes (EV : Hid (EnvOk w0 rb a cc L)) (I : Nat) (hI : I ≤ 200000) (o p : Int) (s : ByteArray) (hs : isT L I s = true) (w : World) (hB : Al rb w0 w) (hR : Re w rb (.slice a L.length cc) I o 0 p lv pm) :
    Calls Tryz.prog 131 #[.pointer (some ⟨rb, 0, none⟩), .string s] w fun e w' => e = .returned (.tuple #[]) ∧ Re w' rb (.slice a L.length cc) ((I : Int) + 1) o 0 p lv pm ∧ Al rb w w' := eneed_yes EV I hI o p s hs w hB hR
theorem e4need_no (EV : Hid (EnvOk w0 rb a cc L)) (I : Nat) (hI : I ≤ 200000) (o p : Int) (s : ByteArray) (hn : isT L I s = false) (w : World) (hB : Al rb w0 w) (hR : Re w rb (.slice a L.length cc) I o 0 p lv pm) (hs : s ≠ noS := by decide) :
    Calls Tryz.prog 131 #[.pointer (some ⟨rb, 0, none⟩), .string s] w fun e w' => e = .returned (.tuple #[]) ∧ Re w' rb (.slice a L.length cc) I o 5 (atP L I) lv pm ∧ Al rb w w' := eneed_no EV I hI o p s hs hn w hB hR
theorem e4need_fault (EV : Hid (EnvOk w0 rb a cc L)) (I : Nat) (hI : I ≤ 200000) (o c p : Int) (s : ByteArray) (hc : c ≠ 0) (w : World) (hB : Al rb w0 w) (hR : Re w rb (.slice a L.length cc) I o c p lv pm) (hs : s ≠ noS := by decide) :
    Calls Tryz.prog 131 #[.pointer (some ⟨rb, 0, none⟩), .string s] w fun e w' => e = .returned (.tuple #[]) ∧ Below w.heap.size w w' := (eneed_fault EV I hI o c p s hs hc w hB hR).mono fun _ _ ⟨h1, q, h2⟩ => ⟨h1, by rw [h2]; exact below_drawn (Below.refl _ _) _⟩
variable {lb pb : Nat}
theorem whole_any {g : Nat} (IH : BnOk w0 rb a cc L lb pb g) (I o : Nat) (r : Res) (w : World) (hI : I ≤ L.length) (hP : P L g (.bin 0) I o = some r) (hB : Al rb w0 w) (hR : RE rb a cc L lb pb w I o 0 0) :
    Calls Tryz.prog 104 #[.pointer (some ⟨rb, 0, none⟩)] w (RPost (RE rb a cc L lb pb) rb o w r) := by
  have hc : Calls Tryz.prog 116 #[.pointer (some ⟨rb, 0, none⟩), .int .i64 0] w (RPost (RE rb a cc L lb pb) rb o w r) := IH 0 I o r w (by omega) hI hP hB hR
  have HX : Hid (∀ e w', RPost (RE rb a cc L lb pb) rb o w r e w' → ∃ x n k, e = .returned (.slice x n k)) := by
    intro e w' ⟨_, h⟩
    match r, h with
    | .error _, ⟨x, n, k, _, h, _⟩ => exact ⟨x, n, k, h⟩
    | .ok _, ⟨F, v, _, h, ho, _⟩ => obtain ⟨x, k, rfl, _⟩ := ho.form; exact ⟨x, _, k, h⟩
  clear hB hR hP IH
  go_enter Tryz.func104, Tryz.ntmps104
  go_wp2_with fail
  refine hc.mono ?_
  intro e w1 hpost
  obtain ⟨x, n, k, rfl⟩ := HX.out e w1 hpost
  have HP := Lib.hid hpost
  clear hc hpost HX
  go_wp2_with fail
  go_ret
  exact HP.out
end
section
variable {L : List Tok} {a : Option Addr} {cc rb lb pb : Nat} {w0 : World}
set_option maxHeartbeats 1000000 in
theorem eargs_none (EV : Hid (EnvOk w0 rb a cc L)) (J o : Nat) (w : World) (hJ : isT L J tRpar = true) (hB : Al rb w0 w) (hR : RE rb a cc L lb pb w J o 0 0) :
    Calls Tryz.prog 129 #[.pointer (some ⟨rb, 0, none⟩)] w fun e w' => e = .returned (.slice none 0 0) ∧ RE rb a cc L lb pb w' ((J : Int) + 1) o 0 0 ∧ Al rb w w' := by
  have hJL := isT_lt hJ
  have hL := EV.out.len
  have hc := e4take_yes EV J (by omega) o 0 ⟨#[41]⟩ hJ w hB hR
  clear hJ hB hR EV
  go_enter Tryz.func129, Tryz.ntmps129
  go_wp2_with fail
  refine hc.mono ?_
  rintro r w1 ⟨rfl, hR, hA⟩
  have HR := Lib.hid hR
  have HA := Lib.hid hA
  clear hc hR hA
  go_wp2_with fail
  go_ret
  exact ⟨rfl, HR.out, HA.out⟩
set_option maxRecDepth 100000 in
set_option maxHeartbeats 4000000 in
theorem eargs_any (EV : Hid (EnvOk w0 rb a cc L)) (f : Nat) (IH : Hid (∀ g, g < f → BnOk w0 rb a cc L lb pb g)) (J o : Nat) (r : Res) (w : World) (hJ : J ≤ L.length) (hnp : isT L J tRpar = false) (hP : P L f (.args []) J o = some r) (hB : Al rb w0 w) (hR : RE rb a cc L lb pb w J o 0 0) :
    Calls Tryz.prog 129 #[.pointer (some ⟨rb, 0, none⟩)] w (RPosts (RE rb a cc L lb pb) rb o w r) := by
  have hL := EV.out.len
  have hlt := hR.lt
  obtain ⟨nb, hnb⟩ : ∃ nb, nb = w.heap.size := ⟨_, rfl⟩
  have HNB := Lib.hid hnb
  rw [← hnb] at hlt
  have HB := Lib.hid hB
  have hc := e4take_no EV J (by omega) o 0 0 ⟨#[41]⟩ (Or.inl hnp) w hB hR
  have HLP : Hid (∀ w1, Below w.heap.size w w1 → LpA (RE rb a cc L lb pb) L rb nb o w (f + 1) r (.slice none 0 0) w1) := fun w1 hb =>
    ⟨Al.of hb, Or.inl ⟨[], J, f, by omega, RwE.nil_ _ _, (fun F hF => by simp at hF), by simp [cat, Fo.size], hJ, hR.below hb, hP⟩⟩
  clear hB hR hP hnp hnb
  go_enter Tryz.func129, Tryz.ntmps129
  go_wp2_with fail
  refine hc.mono ?_
  rintro e w1 ⟨rfl, hb⟩
  have HLP2 := Lib.hid (HLP.out w1 hb)
  clear hc hb HLP
  go_wp2_with fail
  go_loopw [3] (fun ov wr => LpA (RE rb a cc L lb pb) L rb nb o w (f + 1) r ov wr) (fun _ wr => mR rb 1 3 L.length wr)
  case atStart => exact HLP2.out
  case round =>
    obtain ⟨hA, ⟨Fs, i, g2, hg2, hO, hG, hF, hi, hR, hP⟩ | ⟨c, p, x, n, k, i, hr, hc, hi, hR, rfl⟩⟩ := hrel
    · have hBr : Al rb w0 wr := HB.out.next hA
      obtain ⟨vs, hO1, hO2⟩ := hO.row
      obtain ⟨va, vc, rfl, hvc⟩ := hO.len
      rw [List.length_map] at hO1 hvc ⊢
      obtain ⟨fl, hfl⟩ : ∃ fl, fl = Fs.length := ⟨_, rfl⟩
      rw [← hfl] at hO1 hvc ⊢
      have hfr := mR_ok (N := L.length) hR.cells.2.1 hR.cells.2.2.2.1
      have HM := Lib.hid hfr
      obtain ⟨g3, rfl, hrest⟩ := args_cases hP
      obtain ⟨c0, c1, c2, c3, c4, c5, c6⟩ := hR.cells
      obtain ⟨r3, hr3⟩ : ∃ r3, P L g3 (.bin 0) i o = some r3 := by
        rcases hrest with ⟨e, h, _⟩ | ⟨a, i, h, _⟩
        · exact ⟨_, h⟩
        · exact ⟨_, h⟩
      have hcall := whole_any (IH.out g3 (by omega)) i o r3 wr hi hr3 hBr hR
      have hok := eok_any i o 0 0 _ wr hR
      have hrw : nb ≤ wr.heap.size := by rw [HNB.out]; exact hA.size
      have hflb : fl ≤ 400000 := by omega
      have HR3 := Lib.hid hr3
      have HRS := Lib.hid hrest
      have HO1 := Lib.hid hO1
      have HO2 := Lib.hid hO2
      have HOL := Lib.hid (fun g hg => (World.ownsRow.lt hO1 g hg).1)
      have HG := Lib.hid hG
      have HA := Lib.hid hA
      have HFL := Lib.hid hfl
      clear hr3 hrest hO hO1 hO2 hG hR hP hfr hfl
      go_wp2_with fail
      refine hok.mono ?_
      rintro e w3 ⟨rfl, rfl⟩
      clear hok
      go_wp2_with fail
      refine hcall.mono ?_
      rintro e w3 ⟨hA3, hpost⟩
      have HA3 : Hid (Al rb w w3) := HA.out.next hA3
      have hrw3 : nb ≤ w3.heap.size := by have := hA3.size; omega
      have hO3 : w3.ownsRow nb 51 1 (.slice va fl vc) fl vs := Fr.ownsRow hA3 HO1.out (fun k hk e => by have := HOL.out k hk; omega)
      have HO3 : Hid (∀ (i : Nat) (u : Value) (e : List Nd), vs[i]? = some u → (Fs.map (Fo.flat 0))[i]? = some e → OwnE nb w3 u e) := fun i u e hu he => hA3.ownE (HO2.out i u e hu he) hlt
      clear hcall hA3 c0 c1 c2 c3 c4 c5 c6 hBr hA HO1 HO2
      match r3, hpost with
      | .error (c, p), ⟨y, yn, yk, i3, he, hc, hi3, hR4⟩ =>
        subst he
        have HRE : Hid (r = .error (c, p)) := by
          rcases HRS.out with ⟨e, h, h2⟩ | ⟨a, i, h, _⟩
          · have h3 := HR3.out.symm.trans h; cases h3; exact h2
          · have h3 := HR3.out.symm.trans h; cases h3
        have HR4 := Lib.hid hR4
        clear hR4
        go_wp2_with (at_builtin; refine wpList_app rowE rfl _ _ rfl nb _ _ _ rfl (hO3.alloc _) ⟨w3.heap.size, 0, none⟩ 1 [.slice y yn yk] rfl rfl ?c1 ?c2 ?c3 ?c4 (w3.heap.size + 1) ?c5 ?_)
        case c1 => exact World.news_of_block (heap_alloc_new w3 _)
        case c2 => simp [Value.oneCell']
        case c3 => omega
        case c4 => simp; omega
        case c5 => simp
        intro g cap w4 hown hgrow hat hlt4 hcap
        have hgr : Gr w3 (.slice va fl vc) w4 (.slice (some ⟨g, 0, none⟩) (fl + 1) cap) := gr_append hgrow hat
        have HA4 : Hid (Al rb w w4) := Gr.fr HA3.out hgr (fun g hg => by rw [← HNB.out]; exact HOL.out g hg)
        have HR5 : Hid (RE rb a cc L lb pb w4 i3 o c p) := hgr.blk HR4.out (fun h => by have := HOL.out rb h; omega)
        clear hown hgrow hat hgr hO3 hlt4 hcap
        have ht := e4take_no EV i3 hi3 o c p ⟨#[41]⟩ (Or.inr hc) w4 (HB.out.next HA4.out) HR5.out
        go_wp2_with fail
        refine ht.mono ?_
        rintro e w5 ⟨rfl, hb5⟩
        have HR6 := Lib.hid (HR5.out.below hb5)
        have HA6 := Lib.hid (HA4.out.then hb5)
        have hn := e4need_fault EV i3 hi3 o c p ⟨#[44]⟩ hc w5 (HB.out.next HA6.out) HR6.out
        clear ht hb5
        go_wp2_with fail
        refine hn.mono ?_
        rintro e w6 ⟨rfl, hb6⟩
        have HR7 := Lib.hid (HR6.out.below hb6)
        have HA7 := Lib.hid (HA6.out.then hb6)
        clear hn hb6
        go_wp2_with fail
        go_roundw
        case rel => exact ⟨HA7.out, Or.inr ⟨c, p, _, _, _, i3, HRE.out, hc, hi3, HR7.out, rfl⟩⟩
        case measure => rw [HM.out, mR_err HR7.out.cells.2.2.2.1 hc]; omega
      | .ok (l, j), ⟨F, v, hl, he, hO4, hR4⟩ =>
        subst hl he
        obtain ⟨k1, k2, k3, k4⟩ := (P_ok EV.out.ok g3).bin hi HR3.out
        obtain ⟨ya, yc, rfl, -⟩ := hO4.form
        obtain ⟨yl, hyl⟩ : ∃ yl, yl = (F.flat 0).length := ⟨_, rfl⟩
        rw [← hyl] at hO4 ⊢
        have HR4 := Lib.hid hR4
        have HK1 := Lib.hid k1
        have HO4 : Hid (OwnE nb w3 (.slice ya yl yc) (F.flat 0)) := hO4.mono hrw
        have HRE : Hid ((isT L j tRpar = true ∧ r = .ok (Fs ++ [F], j + 1)) ∨ (isT L j tRpar = false ∧ isT L j tComma = true ∧ P L g3 (.args (Fs ++ [F])) (j + 1) o = some r) ∨ (isT L j tRpar = false ∧ isT L j tComma = false ∧ r = .error (5, atP L j))) := by
          rcases HRS.out with ⟨e, h, h2⟩ | ⟨a, i, h, h2⟩
          · have h3 := HR3.out.symm.trans h; cases h3
          · have h3 := HR3.out.symm.trans h; cases h3; exact h2
        clear hR4 hO4 k1 hyl
        go_wp2_with (at_builtin; refine wpList_app rowE rfl _ _ rfl nb _ _ _ rfl (hO3.alloc _) ⟨w3.heap.size, 0, none⟩ 1 [.slice ya yl yc] rfl rfl ?c6 ?c7 ?c8 ?c9 (w3.heap.size + 1) ?c10 ?_)
        case c6 => exact World.news_of_block (heap_alloc_new w3 _)
        case c7 => simp [Value.oneCell']
        case c8 => omega
        case c9 => simp; omega
        case c10 => simp
        intro g cap w4 hown hgrow hat hlt4 hcap
        have hgr : Gr w3 (.slice va fl vc) w4 (.slice (some ⟨g, 0, none⟩) (fl + 1) cap) := gr_append hgrow hat
        have HA4 : Hid (Al rb w w4) := Gr.fr HA3.out hgr (fun g hg => by rw [← HNB.out]; exact HOL.out g hg)
        have HR5 : Hid (RE rb a cc L lb pb w4 j o 0 0) := hgr.blk HR4.out (fun h => by have := HOL.out rb h; omega)
        have HO5 : Hid (RwE nb w4 (.slice (some ⟨g, 0, none⟩) (fl + 1) cap) ((Fs ++ [F]).map (Fo.flat 0))) := by
          show RwE _ _ _ _
          rw [List.map_append]
          exact RwE.push (by rw [List.length_map, HFL.out]) hO3 HO3.out HO4.out hown hgrow
        clear hown hgrow hat hgr hO3 hlt4 hcap
        rcases hT : isT L j tRpar with _ | _
        · have ht := e4take_no EV j (by omega) o 0 0 ⟨#[41]⟩ (Or.inl hT) w4 (HB.out.next HA4.out) HR5.out
          rcases hT2 : isT L j tComma with _ | _
          · have HRR : Hid (r = .error (5, atP L j)) := by
              rcases HRE.out with h | h | h
              · exact absurd (hT.symm.trans h.1) (by decide)
              · exact absurd (hT2.symm.trans h.2.1) (by decide)
              · exact h.2.2
            have HT2 := Lib.hid hT2
            clear hT hT2
            go_wp2_with fail
            refine ht.mono ?_
            rintro e w5 ⟨rfl, hb5⟩
            have HR6 := Lib.hid (HR5.out.below hb5)
            have HA6 := Lib.hid (HA4.out.then hb5)
            have hn := e4need_no EV j (by omega) o 0 ⟨#[44]⟩ HT2.out w5 (HB.out.next HA6.out) HR6.out
            clear ht hb5
            go_wp2_with fail
            refine hn.mono ?_
            rintro e w6 ⟨rfl, hR7, hA7⟩
            have HR7 := Lib.hid hR7
            have HA7 := Lib.hid (HA6.out.next hA7)
            clear hn hR7 hA7
            go_wp2_with fail
            go_roundw
            case rel => exact ⟨HA7.out, Or.inr ⟨5, atP L j, _, _, _, j, HRR.out, by decide, by omega, HR7.out, rfl⟩⟩
            case measure => rw [HM.out, mR_err HR7.out.cells.2.2.2.1 (by decide)]; omega
          · have HRR : Hid (P L g3 (.args (Fs ++ [F])) (j + 1) o = some r) := by
              rcases HRE.out with h | h | h
              · exact absurd (hT.symm.trans h.1) (by decide)
              · exact h.2.2
              · exact absurd (hT2.symm.trans h.2.1) (by decide)
            have hjl := isT_lt hT2
            have HT2 := Lib.hid hT2
            clear hT hT2
            go_wp2_with fail
            refine ht.mono ?_
            rintro e w5 ⟨rfl, hb5⟩
            have HR6 := Lib.hid (HR5.out.below hb5)
            have HA6 := Lib.hid (HA4.out.then hb5)
            have HO6 := Lib.hid (HO5.out.below hb5)
            have hn := e4need_yes EV j (by omega) o 0 ⟨#[44]⟩ HT2.out w5 (HB.out.next HA6.out) HR6.out
            clear ht hb5
            go_wp2_with fail
            refine hn.mono ?_
            rintro e w6 ⟨rfl, hR7, hA7⟩
            have HR7 : Hid (RE rb a cc L lb pb w6 ((j + 1 : Nat) : Int) o 0 0) := by show Re _ _ _ _ _ _ _ _ _; simpa using hR7
            have HA7 := Lib.hid (HA6.out.next hA7)
            have HO7 := Lib.hid (HO6.out.fr hA7 (fun g hg e => by omega))
            have hsz : (cat (Fs ++ [F])).size + (Fs ++ [F]).length ≤ 3 * (j + 1) := by
              rw [cat_snoc, Fo.size_app, List.length_append, List.length_singleton]; omega
            have HSZ := Lib.hid hsz
            clear hn hR7 hA7 hsz
            go_wp2_with fail
            go_roundw
            case rel => exact ⟨HA7.out, Or.inl ⟨Fs ++ [F], j + 1, g3, by omega, HO7.out, (fun G hG => by
              rcases List.mem_append.1 hG with h | h
              · exact HG.out G h
              · rw [List.mem_singleton.1 h]; exact HK1.out), HSZ.out, by omega, HR7.out, HRR.out⟩⟩
            case measure => rw [HM.out, mR_ok HR7.out.cells.2.1 HR7.out.cells.2.2.2.1]; omega
        · have ht := e4take_yes EV j (by omega) o 0 ⟨#[41]⟩ hT w4 (HB.out.next HA4.out) HR5.out
          have HRR : Hid (r = .ok (Fs ++ [F], j + 1)) := by
            rcases HRE.out with h | h | h
            · exact h.2
            · exact absurd (hT.symm.trans h.1) (by decide)
            · exact absurd (hT.symm.trans h.1) (by decide)
          clear hT
          go_wp2_with fail
          refine ht.mono ?_
          rintro e w5 ⟨rfl, hR6, hA6⟩
          have HR6 : Hid (RE rb a cc L lb pb w5 ((j + 1 : Nat) : Int) o 0 0) := by show Re _ _ _ _ _ _ _ _ _; simpa using hR6
          have HA7 := Lib.hid (HA4.out.next hA6)
          have HO7 := Lib.hid (HO5.out.fr hA6 (fun g hg e => by omega))
          clear ht hR6 hA6
          go_wp2_with fail
          go_ret
          rw [HRR.out]
          exact ⟨HA7.out, _, rfl, by rw [← HNB.out]; exact HO7.out, HR6.out⟩
    · obtain ⟨c0, c1, c2, c3, c4, c5, c6⟩ := hR.cells
      have hok := eok_any i o c p _ wr hR
      rw [decide_eq_false hc] at hok
      have HE : Hid (RPosts (RE rb a cc L lb pb) rb o w r (.returned (.slice none 0 0)) wr) := by
        show RPosts _ _ _ _ _ _ _
        rw [hr]; exact ⟨hA, none, 0, 0, i, rfl, hc, hi, hR⟩
      clear hA hR hr hc hi
      go_wp2_with fail
      refine hok.mono ?_
      rintro e w3 ⟨rfl, rfl⟩
      clear hok
      go_wp2_with fail
      go_ret
      exact HE.out
end
end Go.Proofs.YtahalimekacliaaGreatDoor
namespace Go.Proofs.YtahalimekacliaaGreatDoor
open Go.RowKit Go.Shelf Tx Px
def namedS (p : Orc) (L : List Tok) (name : ByteArray) (I o : Nat) : Option Res :=
  if isT L (I + 1) tLpar then (if isT L (I + 2) tRpar then one (joinF 27 0 name []) (I + 3) else callS name (p (.args []) (I + 2) o)) else one (node 3 0 name .no) (I + 1)
section
variable {L : List Tok} {a : Option Addr} {cc rb : Nat} {w0 : World}
end
end Go.Proofs.YtahalimekacliaaGreatDoor
