/- The reader of programs: a parameter: the walk. The program's reader of expressions: an operand, each level: joined. The program's reader of expressions: an expression out of tokens: the walk. The reader of programs: expressions, what begins here: the walk. -/
import Derived.Deep.RegionHeld3
import Derived.Test.YtahalimekacliaaGreatDoorJ11
import Derived.Test.YtahalimekacliaaGreatDoorJ13
import Derived.Test.YtahalimekacliaaGreatDoorJ17
import Derived.Test.YtahalimekacliaaGreatDoorJ18
import Derived.Test.YtahalimekacliaaGreatDoorJ19
import Derived.Test.YtahalimekacliaaGreatDoorJ20
import Derived.Test.YtahalimekacliaaGreatDoorJ21
import Derived.Test.YtahalimekacliaaGreatDoorJ22
import Derived.Test.YtahalimekacliaaGreatDoorJ23
import Derived.Test.YtahalimekacliaaGreatDoorJ24
import Derived.Test.YtahalimekacliaaGreatDoorJ25
import Derived.Test.YtahalimekacliaaGreatDoorJ26
import Derived.Test.YtahalimekacliaaGreatDoorJ27
import Derived.Test.YtahalimekacliaaGreatDoorJ28
import Derived.Test.YtahalimekacliaaGreatDoorJ29
import Derived.Test.YtahalimekacliaaGreatDoorJ30
import Derived.Test.YtahalimekacliaaGreatDoorJ31
import Derived.Test.YtahalimekacliaaGreatDoorJ32
import Derived.Test.YtahalimekacliaaGreatDoorJ33
set_option linter.unusedVariables false
set_option linter.unusedSimpArgs false
namespace Go.Proofs.YtahalimekacliaaGreatDoor
open Go.RowKit Go.Shelf Tx Px Mx Gx
theorem MapIs.lookup1 {P : Program} {κ ν : Type} [DecidableEq κ] {kc : κ → Value} {vc : ν → Value} {w : World} {m : Nat} {l : List (κ × ν)} {t k e : TypeId} (h : MapIs kc vc w m l) (K : KeyLaw' P k kc) (ht : P.underlying t = some (.map k e))
    {z : Value} (hz : ∀ w, (zeroValue e).run P w = .ok z w) (x : κ) :
    (Instr.lookup t (.map (some m)) (kc x) false).run P w = .ok (((look x l).map vc).getD z) w := by
  obtain ⟨es, clock, hb, hl⟩ := h
  have hk : es.toList.map (·.key) = (l.map (·.1)).map kc := by
    have := congrArg (List.map Prod.fst) hl
    simpa [Function.comp_def] using this
  obtain ⟨r, hr, hcase⟩ := K.find x es.toList (l.map (·.1)) hk w
  have hget : (getObj m).run P w = .ok (.map es clock) w := by simp [getObj, Sem.run, hb]
  rcases hcase with ⟨rfl, hno⟩ | ⟨i, en, rfl, hi, hli, hfirst⟩
  · have hn := look_none x l hno
    simp [Instr.lookup, run_underlying ht, hget, K.check, hr, hz, hn, go_sem]
  · obtain ⟨p, hp⟩ : ∃ p, l[i]? = some p ∧ p.1 = x := by
      rw [List.getElem?_map] at hli
      obtain ⟨p, h1, h2⟩ := Option.map_eq_some_iff.1 hli
      exact ⟨p, h1, h2⟩
    obtain ⟨hp1, rfl⟩ := hp
    have hv : en.val = vc p.2 := by
      have := congrArg (fun q => (q[i]?).map Prod.snd) hl
      simpa [hi, hp1] using this
    have hsome : look p.1 l = some p.2 := look_at _ l i p.2 (by rw [hp1]) fun j hj => by
      have := hfirst j hj
      rw [List.getElem?_map] at this
      exact this
    simp [Instr.lookup, run_underlying ht, hget, K.check, hr, hsome, hv, go_sem]
theorem two_c {W : World} {b T : Nat} {u v : Value} (h : Blk W b #[u, v] T) : W.cell? ⟨b, 0, none⟩ = some u ∧ W.cell? ⟨b, 1, none⟩ = some v ∧ W.frozen? ⟨b, 0, none⟩ = false ∧ W.frozen? ⟨b, 1, none⟩ = false := by
  unfold Blk at h
  refine ⟨?_, ?_, ?_, ?_⟩ <;> simp [World.cell?, World.frozen?, h]
def typL : List (ByteArray × Int) := [(⟨#[98, 111, 111, 108]⟩, 1), (⟨#[105, 110, 116]⟩, 2)]
theorem typ_look (m : ByteArray) : ((look m typL).map vI).getD (.int .i64 0) = .int .i64 (typT m) := by
  unfold typT typL
  simp only [look]
  have e1 : (tBool = m) = (m = tBool) := propext eq_comm
  have e2 : (tInt = m) = (m = tInt) := propext eq_comm
  show ((if tBool = m then some (1 : Int) else if tInt = m then some 2 else none).map vI).getD _ = _
  simp only [e1, e2]
  split
  · rfl
  · split
    · rfl
    · rfl
section
variable {L : List Tok} {a : Option Addr} {cc rb : Nat} {w0 : World}
set_option maxRecDepth 100000 in
set_option maxHeartbeats 4000000 in
theorem pparam_any (EV : Hid (EnvOk w0 rb a cc L)) (s : Rs) (w : World) (hB : Al rb w0 w) (hR : Rp L a cc rb w s) :
    Calls Tryz.prog 37 #[.pointer (some ⟨rb, 0, none⟩)] w fun e w' => e = .returned (.agg #[.string (paramR L s).1.name, .int .i64 (paramR L s).1.ty]) ∧ Rp L a cc rb w' (paramR L s).2 ∧ Al rb w w' := by
  have hmm := @run_makeMap Tryz.prog
  have HB := Lib.hid hB
  obtain ⟨s1, hs1⟩ : ∃ s1, s1 = (nameR L s).2 := ⟨_, rfl⟩
  obtain ⟨n, hn⟩ : ∃ n, n = (nameR L s).1 := ⟨_, rfl⟩
  obtain ⟨s2, hs2⟩ : ∃ s2, s2 = needR L tColon s1 := ⟨_, rfl⟩
  obtain ⟨m, hm⟩ : ∃ m, m = markR L s2 := ⟨_, rfl⟩
  have HF : Hid (paramR L s = if typT m = 0 then (⟨n, 0⟩, failR L 5 s2) else (⟨n, typT m⟩, nextR s2)) := by
    show _ = _
    rw [hm, hs2, hs1, hn]; rfl
  obtain ⟨W0, hW0⟩ : ∃ W0, W0 = w.alloc (.cells #[.string ⟨#[]⟩, .int .i64 0] 39) := ⟨_, rfl⟩
  have b0 : Below w.heap.size w W0 := by rw [hW0]; exact (Below.refl _ _).alloc (Nat.le_refl _) _
  have K0 : Hid (Blk W0 w.heap.size #[.string ⟨#[]⟩, .int .i64 0] 39) := by show Blk _ _ _ _; rw [hW0]; exact Blk.new w _ _
  have A0 : Hid (Al rb w W0) := Al.of b0
  have hlt := hR.lt
  have hname := pname_any EV s W0 (hB.next A0.out) (hR.below b0)
  rw [← hs1, ← hn] at hname
  have HS2 := Lib.hid hs2
  have HM := Lib.hid hm
  have HW0 := Lib.hid hW0
  clear hs1 hn hs2 hm hB hR b0 hW0
  go_enter Tryz.func37, Tryz.ntmps37
  go_upto_region 1 with fail
  rw [← HW0.out]
  go_wp2_with fail
  refine hname.mono ?_
  rintro e w1 ⟨rfl, hR1, hA1⟩
  obtain ⟨W1, hW1⟩ : ∃ W1, W1 = w1.alloc (.cells #[.string n, .int .i64 0] 39) := ⟨_, rfl⟩
  have b1 : Below w1.heap.size w1 W1 := by rw [hW1]; exact (Below.refl _ _).alloc (Nat.le_refl _) _
  have K1 : Hid (Blk W1 w1.heap.size #[.string n, .int .i64 0] 39) := by show Blk _ _ _ _; rw [hW1]; exact Blk.new w1 _ _
  have R1 : Hid (Blk W1 w.heap.size #[.string ⟨#[]⟩, .int .i64 0] 39) := (hA1.blk K0.out (by omega)).below b1
  have hA1' : Al rb w W1 := (A0.out.next hA1).then b1
  have A1 := Lib.hid hA1'
  have hlt1 : w.heap.size < w1.heap.size := by have := K0.out.lt; have := hA1.size; omega
  have HW1 := Lib.hid hW1
  have hb2 : Below W1.heap.size W1 (W1.alloc (.cells #[.string ⟨#[58]⟩] 9)) := (Below.refl _ _).alloc (Nat.le_refl _) _
  have hneed := pneed_any EV W1.heap.size [⟨#[58]⟩] (by decide) (fun t ht => by rw [List.mem_singleton.1 ht]; decide) s1 (W1.alloc (.cells #[.string ⟨#[58]⟩] 9)) ((HB.out.next hA1').then hb2) ((hR1.below b1).below hb2) (Blk.new W1 _ _) (by have := hA1'.size; omega)
  have e2 : needL L [⟨#[58]⟩] s1 = s2 := HS2.out.symm
  rw [e2] at hneed
  have HB2 := Lib.hid hb2
  clear hname hR1 hA1 b1 hW1 hA1' hb2 e2
  go_upto_region 2 with fail
  rw [← HW1.out]
  go_wp2_with fail
  refine hneed.mono ?_
  rintro e w2 ⟨rfl, hR2, hA2⟩
  have A2 : Hid (Al rb w w2) := (A1.out.then HB2.out).next hA2
  have K2 : Hid (Blk w2 w1.heap.size #[.string n, .int .i64 0] 39) := hA2.blk (K1.out.below HB2.out) (by omega)
  have R2 : Hid (Blk w2 w.heap.size #[.string ⟨#[]⟩, .int .i64 0] 39) := hA2.blk (R1.out.below HB2.out) (by omega)
  have HR2 := Lib.hid hR2
  have hm0 := MapIs.made Value.string vI w2
  have hb0 : Below w2.heap.size w2 (w2.alloc (.map #[] 0)) := (Below.refl _ _).alloc (Nat.le_refl _) _
  have hs0 : w2.heap.size ≤ (w2.alloc (.map #[] 0)).heap.size := by simp
  clear hneed hR2 hA2
  go_upto_region 4 with (first
    | (refine wpList_insert_is rfl _ _ _ _ rfl keyText Tryz.underlying103 hm1 rfl (⟨#[105, 110, 116]⟩ : ByteArray) (2 : Int) rfl rfl ?_; intro w4 hm2 hg2; have hb2 := below_made hb1 (Nat.le_refl _) hs1 hg2)
    | (refine wpList_insert_is rfl _ _ _ _ rfl keyText Tryz.underlying103 hm0 rfl (⟨#[98, 111, 111, 108]⟩ : ByteArray) (1 : Int) rfl rfl ?_; intro w3 hm1 hg1; have hb1 := below_made hb0 (Nat.le_refl _) hs0 hg1; have hs1 := Nat.le_trans hs0 hg1.size))
  have hm4 : MapIs Value.string vI w4 w2.heap.size typL := hm2
  have B4 := Lib.hid hb2
  have A4 : Hid (Al rb w w4) := A2.out.then hb2
  have hmark := pmark_any EV s2 w4 (HB.out.next A4.out) (HR2.out.below hb2)
  rw [← HM.out] at hmark
  have HMP := Lib.hid hm4
  clear hm0 hm1 hm2 hb0 hb1 hb2 hs0 hs1 hg1 hg2 hm4
  go_wp2_with fail
  refine hmark.mono ?_
  rintro e w5 ⟨rfl, hb5⟩
  have A5 : Hid (Al rb w w5) := A4.out.then hb5
  have K5 := (K2.out.below B4.out).below hb5
  have R5 := Lib.hid ((R2.out.below B4.out).below hb5)
  have HR5 := Lib.hid ((HR2.out.below B4.out).below hb5)
  have hmp : MapIs Value.string vI w5 w2.heap.size typL := HMP.out.of_block (hb5.block _ HMP.out.lt)
  have hlk := hmp.lookup1 keyText Tryz.underlying103 (z := .int .i64 0) (fun w => by kernel_rfl) m
  rw [typ_look] at hlk
  obtain ⟨k0, k1, kf0, kf1⟩ := two_c K5
  have HK5 := Lib.hid K5
  clear hmark hb5 hmp K5
  have hne : w1.heap.size ≠ rb := by omega
  have hne2 : w.heap.size ≠ w1.heap.size := by omega
  obtain ⟨ty, hty⟩ : ∃ ty, ty = typT m := ⟨_, rfl⟩
  rw [← hty] at hlk HF
  have HTY : Hid (ty = typT m) := Lib.hid hty
  clear hty
  go_upto_region 5 with fail
  obtain ⟨W6, hW6⟩ : ∃ W6, W6 = w5.setCell ⟨w1.heap.size, 1, none⟩ (.int .i64 ty) := ⟨_, rfl⟩
  rw [← hW6]
  have F6 : Fr (fun k => k = w1.heap.size) w5 W6 := by rw [hW6]; exact Fr.set_at w5 w1.heap.size 1 _
  have A6 : Hid (Al rb w W6) := Fr.trans A5.out F6 (fun i hi e => by omega)
  have K6 : Blk W6 w1.heap.size #[.string n, .int .i64 ty] 39 := by
    rw [hW6]; have := Blk.setAt HK5.out 1 (.int .i64 ty); simpa using this
  have R6 : Hid (Blk W6 w.heap.size #[.string ⟨#[]⟩, .int .i64 0] 39) := (F6.block _ R5.out.lt hne2).trans R5.out
  have hR6 : Rp L a cc rb W6 s2 := HR5.out.fr F6 (fun e => hne e.symm)
  have HR6 := Lib.hid hR6
  obtain ⟨k0, k1, kf0, kf1⟩ := two_c K6
  have HK6 := Lib.hid K6
  clear hlk hW6 F6 K6 HK5 HMP HR5 R5 hR6
  by_cases h0 : ty = 0
  · have hb : (ty == 0) = true := by rw [beq_iff_eq]; exact h0
    have HP : Hid (paramR L s = (⟨n, 0⟩, failR L 5 s2)) := by show _ = _; rw [HF.out, if_pos h0]
    have hf := pfail_any EV 5 s2 W6 (HB.out.next A6.out) HR6.out
    subst h0
    clear HF
    go_wp2_with fail
    refine hf.mono ?_
    rintro e w7 ⟨rfl, hR7, hA7⟩
    obtain ⟨k0, k1, kf0, kf1⟩ := two_c (hA7.blk HK6.out hne)
    have R7 := hA7.blk R6.out (by omega)
    obtain ⟨r0, r1, rf0, rf1⟩ := two_c R7
    have HR7 := Lib.hid hR7
    have A7 : Hid (Al rb w w7) := A6.out.next hA7
    have HRB := Lib.hid R7
    clear hf hR7 hA7 R7
    go_wp2_with fail
    obtain ⟨W8, hW8⟩ : ∃ W8, W8 = (w7.setCell ⟨w.heap.size, 0, none⟩ (.string n)).setCell ⟨w.heap.size, 1, none⟩ (.int .i64 0) := ⟨_, rfl⟩
    have K8 : Blk W8 w.heap.size #[.string n, .int .i64 0] 39 := by
      rw [hW8]; have h1 := Blk.setAt (Blk.setAt HRB.out 0 (.string n)) 1 (.int .i64 0); simpa using h1
    have F8 : Fr (fun k => k = w.heap.size) w7 W8 := by rw [hW8]; exact Fr.trans (Fr.set_at w7 _ 0 _) (Fr.set_at _ _ 1 _) (fun _ _ q => q)
    obtain ⟨z0, z1, -, -⟩ := two_c K8
    rw [← hW8]
    refine bodyPost_ret (v := .agg #[.string n, .int .i64 0]) (by simp [results, Tryz.results37, go_sem, z0, z1]) rfl ?_
    exact ⟨by rw [HP.out], by rw [HP.out]; exact HR7.out.fr F8 (fun e => by omega), Fr.trans A7.out F8 (fun i hi e => by omega)⟩
  · have hb : (ty == 0) = false := by rw [beq_eq_false_iff_ne]; exact h0
    have HP : Hid (paramR L s = (⟨n, ty⟩, nextR s2)) := by show _ = _; rw [HF.out, if_neg h0]
    have hmk : markR L s2 ≠ noS := fun h => h0 (by rw [HTY.out, HM.out, h]; decide)
    obtain ⟨hc2, hi2⟩ := mark_lt hmk
    have hlen := EV.out.len
    obtain ⟨I, c, p⟩ := s2
    simp only at hc2 hi2
    subst hc2
    obtain ⟨c0, c1, c2, c3⟩ := HR6.out.cells
    obtain ⟨f0, f1, f2, f3⟩ := HR6.out.free
    simp only at c1 c2 c3
    obtain ⟨w7, hw7⟩ : ∃ w7, w7 = W6.setCell ⟨rb, 1, none⟩ (.int .i64 ((I : Int) + 1)) := ⟨_, rfl⟩
    have F7 : Fr (fun k => k = rb) W6 w7 := by rw [hw7]; exact Fr.set_at W6 rb 1 _
    have HR7 : Hid (Rp L a cc rb w7 (nextR ⟨I, 0, p⟩)) := by
      show Rp _ _ _ _ _ _
      rw [hw7]; have h := HR6.out.setI (I + 1) hi2; simpa [nextR] using h
    have A7 : Hid (Al rb w w7) := A6.out.next F7
    have hI5 : (I : Int) + 1 ≤ 300000 := by omega
    have K7 := F7.block w1.heap.size HK6.out.lt hne
    have HRB : Hid (Blk w7 w.heap.size #[.string ⟨#[]⟩, .int .i64 0] 39) := F7.blk' R6.out (by omega)
    obtain ⟨k0', k1', kf0', kf1'⟩ := two_c (F7.blk' HK6.out hne)
    obtain ⟨r0, r1, rf0, rf1⟩ := two_c HRB.out
    have HWW := Lib.hid hw7
    clear HF F7 K7 hmk hw7 h0 hi2 hlen
    go_upto_region 8 with fail
    rw [← HWW.out]
    go_wp2_with fail
    obtain ⟨W8, hW8⟩ : ∃ W8, W8 = (w7.setCell ⟨w.heap.size, 0, none⟩ (.string n)).setCell ⟨w.heap.size, 1, none⟩ (.int .i64 ty) := ⟨_, rfl⟩
    have K8 : Blk W8 w.heap.size #[.string n, .int .i64 ty] 39 := by
      rw [hW8]; have h1 := Blk.setAt (Blk.setAt HRB.out 0 (.string n)) 1 (.int .i64 ty); simpa using h1
    have F8 : Fr (fun k => k = w.heap.size) w7 W8 := by rw [hW8]; exact Fr.trans (Fr.set_at w7 _ 0 _) (Fr.set_at _ _ 1 _) (fun _ _ q => q)
    obtain ⟨z0, z1, -, -⟩ := two_c K8
    rw [← hW8]
    refine bodyPost_ret (v := .agg #[.string n, .int .i64 ty]) (by simp [results, Tryz.results37, go_sem, z0, z1]) rfl ?_
    exact ⟨by rw [HP.out], by rw [HP.out]; exact HR7.out.fr F8 (fun e => by omega), Fr.trans A7.out F8 (fun i hi e => by omega)⟩
end
end Go.Proofs.YtahalimekacliaaGreatDoor
namespace Go.Proofs.YtahalimekacliaaGreatDoor
open Go.RowKit Go.Shelf Tx Px
section
variable {L : List Tok} {a : Option Addr} {cc rb lb pb : Nat} {w0 : World} {ms : Nat → Nat}
theorem operand_any (EX : Hid (EnvX w0 rb a cc L lb pb ms)) (f : Nat) (IH : Hid (∀ g, g < f → BnOk w0 rb a cc L lb pb g ∧ OnOk w0 rb a cc L lb pb g)) (I o : Nat) (r : Res) (w : World) (hI : I ≤ L.length) (hP : P L f (.bin 8) I o = some r) (hB : Al rb w0 w) (hR : RE rb a cc L lb pb w I o 0 0) :
    Calls Tryz.prog 121 #[.pointer (some ⟨rb, 0, none⟩)] w (RPost (RE rb a cc L lb pb) rb o w r) := by
  obtain ⟨g, rfl, hcs⟩ := top_cases hP
  rcases operand_cases hcs with ⟨h1, h2⟩ | ⟨h1, h2, h3⟩ | ⟨ho, x, hx, hc⟩
  · exact operand_early EX I o r w hI (Or.inl ⟨h1, h2⟩) hB hR
  · exact operand_early EX I o r w hI (Or.inr ⟨h1, h2, h3⟩) hB hR
  rcases hc with ⟨hk, hP⟩ | ⟨hk, hP⟩ | ⟨hk, hP⟩ | ⟨hk, hP⟩
  · exact operand_num EX g IH I o x r w hx ho hk hP hB hR
  · unfold namedS at hP
    cases hl : isT L (I + 1) tLpar with
    | false => rw [hl] at hP; exact operand_nameleaf EX g IH I o x r w hx ho hk hl hP hB hR
    | true =>
      rw [hl, if_pos rfl] at hP
      cases ha : isT L (I + 2) tRpar with
      | true => rw [ha, if_pos rfl] at hP; exact operand_namecallnone EX g IH I o x r w hx ho hk hl ha (one_some hP) hB hR
      | false =>
        rw [ha, if_neg (by decide)] at hP
        unfold callS at hP
        split at hP
        · cases hP
        · rename_i e he
          obtain ⟨c, p⟩ := e
          exact operand_namecallerr EX g IH I o x r w hx ho hk c p hl ha he (Option.some.inj hP).symm hB hR
        · rename_i ls j he
          exact operand_namecallok EX g IH I o x r w hx ho hk ls j hl ha he (one_some hP) hB hR
  · rcases sign_cases hP with ⟨hq, hP⟩ | ⟨op, hq, h25, hP⟩ | ⟨hs, hP⟩ | ⟨hs, hP⟩ | ⟨hs, hP⟩ | ⟨hs, hP⟩ | ⟨hq, hs, hP⟩
    · unfold withinS at hP
      split at hP
      · rename_i u hu
        split at hP
        · rename_i hun
          rcases thenE_some hP with ⟨⟨c, p⟩, h1, h2⟩ | ⟨F, j, h1, h2⟩
          · exact operand_withinerr EX g IH I o x r w hx ho hk c p hq u hu hun h1 h2 hB hR
          · exact operand_withinok EX g IH I o x r w hx ho hk F j hq u hu hun h1 (one_some h2) hB hR
        · rename_i hun
          exact operand_withinbad EX g IH I o x r w hx ho hk hq (fun u' hu' => by rw [hu] at hu'; cases hu'; exact hun) (Option.some.inj hP).symm hB hR
      · rename_i hu
        exact operand_withinbad EX g IH I o x r w hx ho hk hq (fun u' hu' => by rw [hu] at hu'; cases hu') (Option.some.inj hP).symm hB hR
    · rcases thenE_some hP with ⟨⟨c, p⟩, h1, h2⟩ | ⟨F, j, h1, h2⟩
      · exact operand_preerr EX g IH I o x r w hx ho hk op c p hq h25 h1 h2 hB hR
      · exact operand_preok EX g IH I o x r w hx ho hk op F j hq h25 h1 (one_some h2) hB hR
    · exact operand_true EX g IH I o x r w hx ho hk hs hP hB hR
    · exact operand_false EX g IH I o x r w hx ho hk hs hP hB hR
    · exact operand_par EX g IH I o x r w hx ho hk hs hP hB hR
    · unfold choiceS at hP
      rcases thenE_some hP with ⟨⟨c, p⟩, h1, h2⟩ | ⟨F, j, h1, h2⟩
      · exact operand_ife1 EX g IH I o x r w hx ho hk c p hs h1 h2 hB hR
      unfold needT at h2
      cases hn : isT L j tThen with
      | false => rw [hn, if_neg (by decide)] at h2; exact operand_ifn1 EX g IH I o x r w hx ho hk F j hs h1 hn (Option.some.inj h2).symm hB hR
      | true =>
        rw [hn, if_pos rfl] at h2
        rcases thenE_some h2 with ⟨⟨c, p⟩, k1, k2⟩ | ⟨G, j2, k1, k2⟩
        · exact operand_ife2 EX g IH I o x r w hx ho hk F j c p hs h1 hn k1 k2 hB hR
        cases hm : isT L j2 tElse with
        | false => rw [hm, if_neg (by decide)] at k2; exact operand_ifn2 EX g IH I o x r w hx ho hk F j G j2 hs h1 hn k1 hm (Option.some.inj k2).symm hB hR
        | true =>
          rw [hm, if_pos rfl] at k2
          rcases thenE_some k2 with ⟨⟨c, p⟩, l1, l2⟩ | ⟨H, j3, l1, l2⟩
          · exact operand_ife3 EX g IH I o x r w hx ho hk F j G j2 c p hs h1 hn k1 hm l1 l2 hB hR
          · exact operand_ifok EX g IH I o x r w hx ho hk F j G j2 H j3 hs h1 hn k1 hm l1 (one_some l2) hB hR
    · exact operand_none EX g IH I o x r w hx ho hk hq hs hP hB hR
  · exact operand_other EX g IH I o x r w hx ho hk hP hB hR
set_option maxRecDepth 100000 in
theorem binary_eight (I o : Nat) (r : Res) (w : World) (hop : Calls Tryz.prog 121 #[.pointer (some ⟨rb, 0, none⟩)] w (RPost (RE rb a cc L lb pb) rb o w r)) (hR : RE rb a cc L lb pb w I o 0 0) :
    Calls Tryz.prog 116 #[.pointer (some ⟨rb, 0, none⟩), .int .i64 8] w (RPost (RE rb a cc L lb pb) rb o w r) := by
  obtain ⟨c0, c1, c2, c3, c4, c5, c6⟩ := hR.cells
  have HX : Hid (∀ e w', RPost (RE rb a cc L lb pb) rb o w r e w' → ∃ x n k, e = .returned (.slice x n k)) := by
    intro e w' ⟨_, h⟩
    match r, h with
    | .error _, ⟨x, n, k, _, h, _⟩ => exact ⟨x, n, k, h⟩
    | .ok _, ⟨F, v, _, h, ho, _⟩ => obtain ⟨x, k, rfl, _⟩ := ho.form; exact ⟨x, _, k, h⟩
  clear hR
  go_enter Tryz.func116, Tryz.ntmps116
  go_wp2_with fail
  refine hop.mono ?_
  intro e w1 hpost
  obtain ⟨x, n, k, rfl⟩ := HX.out e w1 hpost
  have HP := Lib.hid hpost
  clear hop hpost HX
  go_wp2_with fail
  go_ret
  exact HP.out
theorem both_all (EX : Hid (EnvX w0 rb a cc L lb pb ms)) (f : Nat) : BnOk w0 rb a cc L lb pb f ∧ OnOk w0 rb a cc L lb pb f := by
  induction f using Nat.strongRecOn with
  | ind f ih =>
    have IH : Hid (∀ g, g < f → BnOk w0 rb a cc L lb pb g ∧ OnOk w0 rb a cc L lb pb g) := ih
    have IHB : Hid (∀ g, g < f → BnOk w0 rb a cc L lb pb g) := fun g hg => (ih g hg).1
    have hon : OnOk w0 rb a cc L lb pb f := fun I o r w hI hP hB hR => operand_any EX f IH I o r w hI hP hB hR
    refine ⟨fun n I o r w hn hI hP hB hR => ?_, hon⟩
    by_cases h8 : n < 8
    · exact binary_any EX f IHB n I o h8 r w hI hP hB hR
    · obtain rfl : n = 8 := by omega
      exact binary_eight I o r w (hon I o r w hI hP hB hR) hR
end
end Go.Proofs.YtahalimekacliaaGreatDoor
namespace Go.Proofs.YtahalimekacliaaGreatDoor
open Go.RowKit Go.Shelf Tx Px
set_option maxRecDepth 100000 in
set_option maxHeartbeats 8000000 in
theorem pParse_any (L : List Tok) (hL : L.length ≤ 100000) (hok : ∀ t ∈ L, TokOk t) (v : Value) (from_ : Nat) (hf : from_ ≤ L.length) (r : Except (Int × Int) (Fo × Nat)) (w : World) (hv : Sl tokC 3 w v L) (hr : ParR L from_ r) :
    Calls Tryz.prog 84 #[v, .int .i64 from_] w (ParPost L from_ w r) := by
  obtain ⟨a, cc, rfl, hcc, -⟩ := hv.form
  obtain ⟨f, hf2⟩ := hr
  have C1 := Blk.new w #[.int .i64 0, .int .i64 0] 25
  have hba : Below w.heap.size w (w.alloc (.cells #[.int .i64 0, .int .i64 0] 25)) := (Below.refl _ _).alloc (Nat.le_refl _) _
  have hlv := levels_any (w.alloc (.cells #[.int .i64 0, .int .i64 0] 25))
  have HV := Lib.hid hv
  have HBA := Lib.hid hba
  have HC0 := Lib.hid C1
  have hlt : ¬ ((from_ : Int) < 0) := by omega
  have hgt : ¬ ((L.length : Int) < (from_ : Int)) := by omega
  have HF2 := Lib.hid hf2
  clear hv hba C1
  obtain ⟨r1, hr1⟩ : ∃ r1, P L f (.bin 0) from_ 0 = some r1 := by
    unfold parse at hf2
    cases h : P L f (.bin 0) from_ 0 with
    | none => rw [h] at hf2; cases hf2
    | some q => exact ⟨q, rfl⟩
  have HR1 := Lib.hid hr1
  clear hf2 hr1
  go_enter Tryz.func84, Tryz.ntmps84
  go_wp2_with fail
  refine hlv.mono ?_
  rintro e u1 ⟨lb, ms, rfl, hlb, hLv, hb1⟩
  have hpx := prefixes_any u1
  have HLV := Lib.hid hLv
  have HB1 := Lib.hid hb1
  clear hlv hLv hb1 hlb
  go_wp2_with fail
  refine hpx.mono ?_
  rintro e u2 ⟨pb, rfl, hpb, hPm, hb2⟩
  have HLV2 : Hid (LvAt lb ms u2) := HLV.out.fr (S := fun _ => False) (Fr.of_below hb2 _) (fun _ _ h => h)
  have HPM := Lib.hid hPm
  have HB2 : Hid (Below w.heap.size w u2) := below_next HBA.out (below_next HB1.out hb2)
  have HC2 := Lib.hid ((HC0.out.below HB1.out).below hb2)
  clear hpx hPm hb2 hpb
  obtain ⟨rb, hrb⟩ : ∃ rb, rb = u2.heap.size := ⟨_, rfl⟩
  obtain ⟨W0, hW0⟩ : ∃ W0, W0 = u2.alloc (.cells #[.slice a L.length cc, .int .i64 from_, .int .i64 0, .int .i64 0, .int .i64 0, .slice (some ⟨lb, 0, none⟩) 8 8, .map (some pb)] 137) := ⟨_, rfl⟩
  have hb3 : Below u2.heap.size u2 W0 := by rw [hW0]; exact (Below.refl _ _).alloc (Nat.le_refl _) _
  have hR0 : RE rb a cc L lb pb W0 from_ ((0 : Nat) : Int) 0 0 := by show Re _ _ _ _ _ _ _ _ _; rw [hW0, hrb]; exact Blk.new u2 _ _
  have hrb1 : w.heap.size + 1 ≤ rb := by
    have h1 := HC2.out.lt
    omega
  have HRB := Lib.hid hrb1
  have HB0 : Hid (Below w.heap.size w W0) := below_next HB2.out hb3
  have EV0 : Hid (EnvOk W0 rb a cc L) := Lib.hid (tok_at HV.out hL hok HB0.out (rb := rb) (by omega))
  have HC1 : Hid (Blk W0 w.heap.size #[.int .i64 0, .int .i64 0] 25) := HC2.out.below hb3
  have hfr : ∀ W, Al rb W0 W → Fr (fun k => k = rb) u2 W := fun W hW => Fr.trans (Fr.of_below hb3 _) hW (fun _ _ q => q)
  have EX : Hid (EnvX W0 rb a cc L lb pb ms) := ⟨EV0.out, fun W hW => HLV2.out.fr (hfr W hW) (fun k hk e => by omega), fun W hW => HPM.out.of_block ((hfr W hW).block pb HPM.out.lt (fun e => by have := HPM.out.lt; omega))⟩
  have hcall := whole_any (both_all EX f).1 from_ 0 r1 W0 hf HR1.out (Al.refl _ _) hR0
  have hAt : Hid (∀ W, Al rb W0 W → Calls Tryz.prog 45 #[.slice a L.length cc, .int .i64 from_] W fun e w' => e = .returned (.int .i64 (atP L from_)) ∧ w' = W) := fun W h => eAt_any EV0 from_ (by omega) W h
  obtain ⟨fb, hfb⟩ : ∃ fb, fb = w.heap.size := ⟨_, rfl⟩
  have HFB := Lib.hid hfb
  have HW0 := Lib.hid hW0
  have HRBE := Lib.hid hrb
  clear hb3 hR0 hW0 hfr hfb hrb hrb1
  go_wp2_with fail
  rw [← HRBE.out, ← HW0.out]
  clear HW0 HRBE HC2 HB2 HPM HLV2 HB1 HLV HC0 HBA
  refine hcall.mono ?_
  rintro e w1 ⟨hA, hpost⟩
  have HA : Hid (Al rb W0 w1) := hA
  have hB1 : Below w.heap.size w w1 := hA.keeps HB0.out HB0.out.size (by have := HRB.out; omega)
  have k1 := hA.blk HC1.out (by have := HRB.out; omega)
  have HB1 := Lib.hid hB1
  obtain ⟨k1c0, k1c1, k1f0, k1f1⟩ := two_cells k1
  have HK1 := Lib.hid k1
  clear hcall hA hB1
  match r1, hpost with
  | .error (c, p), ⟨y, yn, yk, i3, he, hc, hi3, hR4⟩ =>
    subst he
    have HRE : Hid (r = .error (c, p)) := by
      have h := HF2.out
      unfold parse at h; rw [HR1.out] at h
      exact (Option.some.inj h).symm
    obtain ⟨c0, c1, c2, c3, c4, c5, c6⟩ := hR4.cells
    have hok1 := eok_any (i3 : Nat) ((0 : Nat) : Int) c p _ w1 hR4
    rw [decide_eq_false hc] at hok1
    clear hR4 hpost
    have HS : Hid (Below w.heap.size w ((w1.drew.setCell ⟨w.heap.size, 0, none⟩ (.int .i64 c)).setCell ⟨w.heap.size, 1, none⟩ (.int .i64 p))) := (HB1.out.drew.setCell (Nat.le_refl _) _).setCell (Nat.le_refl _) _
    go_wp2_with fail
    refine hok1.mono ?_
    rintro e w3 ⟨rfl, rfl⟩
    clear hok1
    go_wp2_with fail
    go_region
    all_goals
      go_wp2_with fail
      refine bodyPost_ret (v := .tuple #[.slice none 0 0, .int .i64 0, .agg #[.int .i64 c, .int .i64 p]]) (by simp [results, Tryz.results84, go_sem, k1c0, k1c1]) rfl ?_
      rw [HRE.out]
      exact ⟨HS.out, rfl⟩
  | .ok (l, j), ⟨G, v, hl, he, hO4, hR4⟩ =>
    subst hl he
    obtain ⟨g1, g2, g3, g4⟩ := (P_ok hok f).bin hf HR1.out
    obtain ⟨ya, yc, rfl, -⟩ := hO4.form
    have hdep := depL_flat g1.wf g1.one
    have HRE : Hid (r = if 5000 < G.size then .error (7, atP L from_) else if 40 < G.depth then .error (6, atP L from_) else .ok (G, j)) := by
      have h := HF2.out
      unfold parse at h; rw [HR1.out] at h
      exact (Option.some.inj h).symm
    obtain ⟨c0, c1, c2, c3, c4, c5, c6⟩ := hR4.cells
    have hlow : ∀ g, (Value.slice ya (G.flat 0).length yc).ownBlock = some g → g ≠ w.heap.size := fun g hg e => by have h1 := (hO4.low g hg).1; have h2 := HC1.out.lt; omega
    have hO4 := hO4.mono HB0.out.size
    have hsz := Fo.flat_len G 0
    rw [hsz] at hO4 hlow ⊢
    have HLOW := Lib.hid hlow
    clear hlow
    have hcat := hAt.out w1 HA.out
    have hok1 := eok_any (j : Nat) ((0 : Nat) : Int) 0 0 _ w1 hR4
    by_cases h1 : 5000 < G.size
    · rw [if_pos h1] at HRE
      have e1 : decide ((5000 : Int) < (G.size : Int)) = true := decide_eq_true (by omega)
      have HS : Hid (Below w.heap.size w ((w1.setCell ⟨w.heap.size, 0, none⟩ (.int .i64 7)).setCell ⟨w.heap.size, 1, none⟩ (.int .i64 (atP L from_)))) := (HB1.out.setCell (Nat.le_refl _) _).setCell (Nat.le_refl _) _
      clear hR4 hpost hdep hO4 g1 g4 hsz
      go_wp2_with fail
      refine hok1.mono ?_
      rintro e w9 ⟨rfl, rfl⟩
      clear hok1
      go_wp2_with fail
      refine hcat.mono ?_
      rintro e w2 ⟨rfl, rfl⟩
      clear hcat
      go_wp2_with fail
      refine bodyPost_ret (v := .tuple #[.slice none 0 0, .int .i64 0, .agg #[.int .i64 7, .int .i64 (atP L from_)]]) (by simp [results, Tryz.results84, go_sem, k1c0, k1c1]) rfl ?_
      rw [HRE.out]
      exact ⟨HS.out, rfl⟩
    · rw [if_neg h1] at HRE
      have e1 : decide ((5000 : Int) < (G.size : Int)) = false := decide_eq_false (by omega)
      have hd := Depth_any (G.flat 0) (.slice ya G.size yc) w1 (by rw [hsz]; omega) hO4.isE
      rw [hdep] at hd
      have HO4 := Lib.hid hO4
      have HR4 := Lib.hid hR4
      by_cases h2 : 40 < G.depth
      · rw [if_pos h2] at HRE
        have e2 : decide ((40 : Int) < (G.depth : Int)) = true := decide_eq_true (by omega)
        clear hR4 hpost hdep hO4 g1 g4 hsz hcat
        go_wp2_with fail
        refine hok1.mono ?_
        rintro e w9 ⟨rfl, rfl⟩
        clear hok1
        go_wp2_with fail
        refine hd.mono ?_
        rintro e w2 ⟨rfl, hb2⟩
        have HA2 := Lib.hid (HA.out.then hb2)
        have hcat := hAt.out w2 HA2.out
        have hk2 := HK1.out.below hb2
        have HB2 := Lib.hid (below_next HB1.out hb2)
        obtain ⟨p0, p1, p2, p3⟩ := two_cells hk2
        have HS : Hid (Below w.heap.size w ((w2.setCell ⟨w.heap.size, 0, none⟩ (.int .i64 6)).setCell ⟨w.heap.size, 1, none⟩ (.int .i64 (atP L from_)))) := (HB2.out.setCell (Nat.le_refl _) _).setCell (Nat.le_refl _) _
        clear hd hb2 hk2 c0 c1 c2 c3 c4 c5 c6 k1 k1c0 k1c1
        go_wp2_with fail
        refine hcat.mono ?_
        rintro e w3 ⟨rfl, rfl⟩
        clear hcat
        go_wp2_with fail
        refine bodyPost_ret (v := .tuple #[.slice none 0 0, .int .i64 0, .agg #[.int .i64 6, .int .i64 (atP L from_)]]) (by simp [results, Tryz.results84, go_sem, p0, p1]) rfl ?_
        rw [HRE.out]
        exact ⟨HS.out, rfl⟩
      · rw [if_neg h2] at HRE
        have e2 : decide ((40 : Int) < (G.depth : Int)) = false := decide_eq_false (by omega)
        clear hR4 hpost hdep hO4 g1 g4 hsz hcat
        go_wp2_with fail
        refine hok1.mono ?_
        rintro e w9 ⟨rfl, rfl⟩
        clear hok1
        go_wp2_with fail
        refine hd.mono ?_
        rintro e w2 ⟨rfl, hb2⟩
        have hk2 := HK1.out.below hb2
        have HB2 := Lib.hid (below_next HB1.out hb2)
        have HO5 := Lib.hid (HO4.out.below hb2)
        obtain ⟨p0, p1, p2, p3⟩ := two_cells hk2
        obtain ⟨q0, q1, q2, q3, q4, q5, q6⟩ := (HR4.out.below hb2).cells
        have HS : Hid (Below w.heap.size w ((w2.drew.setCell ⟨w.heap.size, 0, none⟩ (.int .i64 0)).setCell ⟨w.heap.size, 1, none⟩ (.int .i64 0)) ∧ OwnE w.heap.size ((w2.drew.setCell ⟨w.heap.size, 0, none⟩ (.int .i64 0)).setCell ⟨w.heap.size, 1, none⟩ (.int .i64 0)) (.slice ya G.size yc) (G.flat 0)) :=
          ⟨(HB2.out.drew.setCell (Nat.le_refl _) _).setCell (Nat.le_refl _) _, OwnE.set (OwnE.set (w := w2.drew) HO5.out (fun e => HLOW.out _ e rfl) _ _) (fun e => HLOW.out _ e rfl) _ _⟩
        clear hd hb2 hk2 c0 c1 c2 c3 c4 c5 c6 k1 k1c0 k1c1
        go_wp2_with fail
        go_region
        all_goals
          go_wp2_with fail
          refine bodyPost_ret (v := .tuple #[.slice ya G.size yc, .int .i64 j, .agg #[.int .i64 0, .int .i64 0]]) (by simp [results, Tryz.results84, go_sem, p0, p1]) rfl ?_
          rw [HRE.out]
          exact ⟨HS.out.1, _, rfl, HS.out.2⟩
end Go.Proofs.YtahalimekacliaaGreatDoor
namespace Go.Proofs.YtahalimekacliaaGreatDoor
open Go.RowKit Go.Shelf Tx Px Mx Gx
section
variable {L : List Tok} {a : Option Addr} {cc rb : Nat} {w0 : World} {X : XO}
set_option maxRecDepth 100000 in
set_option maxHeartbeats 4000000 in
theorem pexpr_any (EV : Hid (EnvOk w0 rb a cc L)) (hX : Hid (XOk L X)) (s : Rs) (w : World) (hB : Al rb w0 w) (hR : Rp L a cc rb w s) :
    Calls Tryz.prog 71 #[.pointer (some ⟨rb, 0, none⟩)] w fun e w' => ∃ v, e = .returned v ∧ OwnE w.heap.size w' v (exprR X s).1 ∧ Rp L a cc rb w' (exprR X s).2 ∧ Al rb w w' := by
  have hok := pok_any s w hR
  by_cases hc : s.c = 0
  · rw [decide_eq_true hc] at hok
    obtain ⟨I, c, p⟩ := s
    simp only at hc
    subst hc
    have hle := hR.le
    simp only at hle
    have hsl := fun W (h : Al rb w0 W) => EV.out.sl h
    have hp := fun W (h : Al rb w W) => pParse_any L EV.out.len EV.out.ok (.slice a L.length cc) I hle (X I) W (hsl W (hB.next h)) (hX.out I hle)
    have HXI : Hid (exprR X ⟨I, 0, p⟩ = match X I with
      | .error e => ([], ⟨I, e.1, e.2⟩)
      | .ok (F, j) => (F.flat 0, ⟨j, 0, p⟩)) := by show _ = _; unfold exprR; rw [if_pos rfl]; rfl
    have HPL : Hid (∀ F j, X I = .ok (F, j) → j ≤ L.length) := fun F j h => by
      have h1 := hX.out I hle; rw [h] at h1; exact (par_le EV.out.ok hle h1).2
    have HPC : Hid (∀ c q, X I = .error (c, q) → c ≠ 0) := fun c q h => by
      have h1 := hX.out I hle; rw [h] at h1; exact (par_code h1).1
    obtain ⟨r, hr⟩ : ∃ r, r = X I := ⟨_, rfl⟩
    rw [← hr] at hp HXI HPL HPC
    have HP := Lib.hid hp
    have HR := Lib.hid hR
    obtain ⟨c0, c1, c2, c3⟩ := hR.cells
    simp only at c1 c2 c3
    have HC : Hid (w.cell? ⟨rb, 0, none⟩ = some (.slice a L.length cc) ∧ w.cell? ⟨rb, 1, none⟩ = some (.int .i64 I)) := ⟨c0, c1⟩
    have HLT := Lib.hid hR.lt
    clear hB hR hle hsl hp hr EV c2 c3 hX
    match r, HP, HXI, HPL, HPC with
    | .error (c, q), HP, HXI, _, HPC =>
      go_enter Tryz.func71, Tryz.ntmps71
      go_wp2_with fail
      refine hok.mono ?_
      rintro e w1 ⟨rfl, rfl⟩
      clear hok
      have K0 : w1.cell? ⟨rb, 0, none⟩ = some (.slice a L.length cc) ∧ w1.cell? ⟨rb, 1, none⟩ = some (.int .i64 I) := HC.out
      have K1 : w1.drew.cell? ⟨rb, 0, none⟩ = some (.slice a L.length cc) ∧ w1.drew.cell? ⟨rb, 1, none⟩ = some (.int .i64 I) := HC.out
      have hne : ¬ (rb = w1.heap.size) := by have := HLT.out; omega
      have KA : ∀ o, (w1.alloc o).drew.cell? ⟨rb, 0, none⟩ = some (.slice a L.length cc) ∧ (w1.alloc o).drew.cell? ⟨rb, 1, none⟩ = some (.int .i64 I) := fun o => ⟨(((Below.refl w1.heap.size w1).alloc (Nat.le_refl _) o).cell (p := ⟨rb, 0, none⟩) HLT.out).trans K0.1, (((Below.refl w1.heap.size w1).alloc (Nat.le_refl _) o).cell (p := ⟨rb, 1, none⟩) HLT.out).trans K0.2⟩
      have KB : ∀ o, (w1.alloc o).cell? ⟨rb, 0, none⟩ = some (.slice a L.length cc) ∧ (w1.alloc o).cell? ⟨rb, 1, none⟩ = some (.int .i64 I) := fun o => ⟨(((Below.refl w1.heap.size w1).alloc (Nat.le_refl _) o).cell (p := ⟨rb, 0, none⟩) HLT.out).trans K0.1, (((Below.refl w1.heap.size w1).alloc (Nat.le_refl _) o).cell (p := ⟨rb, 1, none⟩) HLT.out).trans K0.2⟩
      have AA : Hid (Al rb w1 (w1.alloc (.cells #[.int .i64 0, .int .i64 0] 25)).drew) := (Al.of ((Below.refl _ _).alloc (Nat.le_refl _) _)).drew
      have hltA : rb < (w1.alloc (.cells #[.int .i64 0, .int .i64 0] 25)).drew.heap.size := Nat.lt_of_lt_of_le HLT.out AA.out.size
      have KF0 : Hid (Blk (w1.alloc (.cells #[.int .i64 0, .int .i64 0] 25)).drew w1.heap.size #[.int .i64 0, .int .i64 0] 25) := Blk.new w1 _ _
      clear c0 c1
      go_wp2_with fail
      go_region_held3 (fun w' => w'.cell? ⟨rb, 0, none⟩ = some (.slice a L.length cc) ∧ w'.cell? ⟨rb, 1, none⟩ = some (.int .i64 I))
        (first | exact K2 | exact K3 _ | exact K5 _ _ | exact K1 | exact K0 | exact KA _ | exact KB _ | fail)
        (first | (go_at_call 84; (with_reducible refine (HP.out _ ((Al.refl rb w1).drew)).mono ?_); rintro e w2 ⟨hb2, rfl⟩; have K2 : w2.cell? ⟨rb, 0, none⟩ = some (.slice a L.length cc) ∧ w2.cell? ⟨rb, 1, none⟩ = some (.int .i64 I) := ⟨(hb2.cell (p := ⟨rb, 0, none⟩) HLT.out).trans K1.1, (hb2.cell (p := ⟨rb, 1, none⟩) HLT.out).trans K1.2⟩; have hlt2 : rb < w2.heap.size := Nat.lt_of_lt_of_le HLT.out hb2.size; have K3 : ∀ o, (w2.alloc o).cell? ⟨rb, 0, none⟩ = some (.slice a L.length cc) ∧ (w2.alloc o).cell? ⟨rb, 1, none⟩ = some (.int .i64 I) := fun o => ⟨(((Below.refl w2.heap.size w2).alloc (Nat.le_refl _) o).cell (p := ⟨rb, 0, none⟩) hlt2).trans K2.1, (((Below.refl w2.heap.size w2).alloc (Nat.le_refl _) o).cell (p := ⟨rb, 1, none⟩) hlt2).trans K2.2⟩) | (go_at_call 84; (with_reducible refine (HP.out _ AA.out).mono ?_); rintro e w2 ⟨hb2, rfl⟩; have K2 : w2.cell? ⟨rb, 0, none⟩ = some (.slice a L.length cc) ∧ w2.cell? ⟨rb, 1, none⟩ = some (.int .i64 I) := ⟨(hb2.cell (p := ⟨rb, 0, none⟩) hltA).trans (KA _).1, (hb2.cell (p := ⟨rb, 1, none⟩) hltA).trans (KA _).2⟩; have KF : Blk w2 w1.heap.size #[.int .i64 0, .int .i64 0] 25 := KF0.out.below hb2; obtain ⟨z0, z1, zf0, zf1⟩ := two_c KF; have KF := Lib.hid KF; have K5 : ∀ u v, ((w2.setCell ⟨w1.heap.size, 0, none⟩ u).setCell ⟨w1.heap.size, 1, none⟩ v).cell? ⟨rb, 0, none⟩ = some (.slice a L.length cc) ∧ ((w2.setCell ⟨w1.heap.size, 0, none⟩ u).setCell ⟨w1.heap.size, 1, none⟩ v).cell? ⟨rb, 1, none⟩ = some (.int .i64 I) := fun u v => ⟨((Fr.trans (Fr.set_at w2 w1.heap.size 0 u) (Fr.set_at _ _ 1 v) (fun _ _ q => q)).cell (p := ⟨rb, 0, none⟩) (Nat.lt_of_lt_of_le hltA hb2.size) hne).trans K2.1, ((Fr.trans (Fr.set_at w2 w1.heap.size 0 u) (Fr.set_at _ _ 1 v) (fun _ _ q => q)).cell (p := ⟨rb, 1, none⟩) (Nat.lt_of_lt_of_le hltA hb2.size) hne).trans K2.2⟩))
      · obtain ⟨W, hW⟩ : ∃ W, W = w2.alloc (.cells #[.int .i64 c, .int .i64 q] 25) := ⟨_, rfl⟩
        have hA : Al rb w1 W := by rw [hW]; exact Fr.of_below (below_next (below_next ((Below.refl w1.heap.size w1).drew) hb2) ((Below.refl _ _).alloc (Nat.le_refl _) _)) _
        have hR : Rp L a cc rb W ⟨I, 0, p⟩ := HR.out.fr (S := fun k => k = rb ∧ k ≠ rb) (by rw [hW]; exact Fr.of_below (below_next (below_next ((Below.refl w1.heap.size w1).drew) hb2) ((Below.refl _ _).alloc (Nat.le_refl _) _)) _) (fun h => h.2 h.1)
        have hF : Blk W w2.heap.size #[.int .i64 c, .int .i64 q] 25 := by rw [hW]; exact Blk.new w2 _ _
        obtain ⟨y0, y1, -, -⟩ := two_c hF
        obtain ⟨c0, c1, c2, c3⟩ := hR.cells
        obtain ⟨f0, f1, f2, f3⟩ := hR.free
        simp only at c1 c2 c3
        have hcb : (c != 0) = true := by rw [bne_iff_ne]; exact HPC.out _ _ rfl
        have HR2 := Lib.hid hR
        have HA := Lib.hid hA
        rw [← hW]
        clear hW hR hA hF
        go_wp2_with fail
        go_ret
        exact ⟨_, rfl, by rw [HXI.out]; exact OwnE.nil_ _ _, by rw [HXI.out]; have h := (HR2.out.setC c).setP q; simpa using h, (HA.out.set _ _).set _ _⟩
      · obtain ⟨W, hW⟩ : ∃ W, W = (w2.setCell ⟨w1.heap.size, 0, none⟩ (.int .i64 c)).setCell ⟨w1.heap.size, 1, none⟩ (.int .i64 q) := ⟨_, rfl⟩
        have hA : Al rb w1 W := by rw [hW]; exact Fr.trans (Fr.of_below (below_next (((Below.refl w1.heap.size w1).alloc (Nat.le_refl _) _).drew) hb2) _) (Fr.trans (Fr.set_at w2 w1.heap.size 0 _) (Fr.set_at _ _ 1 _) (fun _ _ q => q)) (fun i hi e => by omega)
        have hR : Rp L a cc rb W ⟨I, 0, p⟩ := HR.out.fr (S := fun k => k = rb ∧ k ≠ rb) (by rw [hW]; exact Fr.trans (Fr.of_below (below_next (((Below.refl w1.heap.size w1).alloc (Nat.le_refl _) _).drew) hb2) _) (Fr.trans (Fr.set_at w2 w1.heap.size 0 _) (Fr.set_at _ _ 1 _) (fun _ _ q => q)) (fun i hi e => by omega)) (fun h => h.2 h.1)
        have hF : Blk W w1.heap.size #[.int .i64 c, .int .i64 q] 25 := by rw [hW]; have h := Blk.setAt (Blk.setAt KF.out 0 (.int .i64 c)) 1 (.int .i64 q); simpa using h
        obtain ⟨y0, y1, -, -⟩ := two_c hF
        obtain ⟨c0, c1, c2, c3⟩ := hR.cells
        obtain ⟨f0, f1, f2, f3⟩ := hR.free
        simp only at c1 c2 c3
        have hcb : (c != 0) = true := by rw [bne_iff_ne]; exact HPC.out _ _ rfl
        have HR2 := Lib.hid hR
        have HA := Lib.hid hA
        rw [← hW]
        clear hW hR hA hF
        go_wp2_with fail
        go_ret
        exact ⟨_, rfl, by rw [HXI.out]; exact OwnE.nil_ _ _, by rw [HXI.out]; have h := (HR2.out.setC c).setP q; simpa using h, (HA.out.set _ _).set _ _⟩
    | .ok (F, j), HP, HXI, HPL, _ =>
      obtain ⟨fl, hfl⟩ : ∃ fl, fl = F.flat 0 := ⟨_, rfl⟩
      have HFL := Lib.hid hfl
      have e00 : ((0 : Int) != 0) = false := by decide
      go_enter Tryz.func71, Tryz.ntmps71
      go_wp2_with fail
      refine hok.mono ?_
      rintro e w1 ⟨rfl, rfl⟩
      clear hok
      have K0 : w1.cell? ⟨rb, 0, none⟩ = some (.slice a L.length cc) ∧ w1.cell? ⟨rb, 1, none⟩ = some (.int .i64 I) := HC.out
      have K1 : w1.drew.cell? ⟨rb, 0, none⟩ = some (.slice a L.length cc) ∧ w1.drew.cell? ⟨rb, 1, none⟩ = some (.int .i64 I) := HC.out
      have hne : ¬ (rb = w1.heap.size) := by have := HLT.out; omega
      have KA : ∀ o, (w1.alloc o).drew.cell? ⟨rb, 0, none⟩ = some (.slice a L.length cc) ∧ (w1.alloc o).drew.cell? ⟨rb, 1, none⟩ = some (.int .i64 I) := fun o => ⟨(((Below.refl w1.heap.size w1).alloc (Nat.le_refl _) o).cell (p := ⟨rb, 0, none⟩) HLT.out).trans K0.1, (((Below.refl w1.heap.size w1).alloc (Nat.le_refl _) o).cell (p := ⟨rb, 1, none⟩) HLT.out).trans K0.2⟩
      have KB : ∀ o, (w1.alloc o).cell? ⟨rb, 0, none⟩ = some (.slice a L.length cc) ∧ (w1.alloc o).cell? ⟨rb, 1, none⟩ = some (.int .i64 I) := fun o => ⟨(((Below.refl w1.heap.size w1).alloc (Nat.le_refl _) o).cell (p := ⟨rb, 0, none⟩) HLT.out).trans K0.1, (((Below.refl w1.heap.size w1).alloc (Nat.le_refl _) o).cell (p := ⟨rb, 1, none⟩) HLT.out).trans K0.2⟩
      have AA : Hid (Al rb w1 (w1.alloc (.cells #[.int .i64 0, .int .i64 0] 25)).drew) := (Al.of ((Below.refl _ _).alloc (Nat.le_refl _) _)).drew
      have hltA : rb < (w1.alloc (.cells #[.int .i64 0, .int .i64 0] 25)).drew.heap.size := Nat.lt_of_lt_of_le HLT.out AA.out.size
      have KF0 : Hid (Blk (w1.alloc (.cells #[.int .i64 0, .int .i64 0] 25)).drew w1.heap.size #[.int .i64 0, .int .i64 0] 25) := Blk.new w1 _ _
      clear c0 c1
      go_wp2_with fail
      go_region_held3 (fun w' => w'.cell? ⟨rb, 0, none⟩ = some (.slice a L.length cc) ∧ w'.cell? ⟨rb, 1, none⟩ = some (.int .i64 I))
        (first | exact K2 | exact K3 _ | exact K5 _ _ | exact K1 | exact K0 | exact KA _ | exact KB _ | fail)
        (first | (go_at_call 84; (with_reducible refine (HP.out _ ((Al.refl rb w1).drew)).mono ?_); rintro e w2 ⟨hb2, v, rfl, hO⟩; rw [← HFL.out] at hO; obtain ⟨ea, ec, rfl, -⟩ := hO.form; have hO := Lib.hid hO; have K2 : w2.cell? ⟨rb, 0, none⟩ = some (.slice a L.length cc) ∧ w2.cell? ⟨rb, 1, none⟩ = some (.int .i64 I) := ⟨(hb2.cell (p := ⟨rb, 0, none⟩) HLT.out).trans K1.1, (hb2.cell (p := ⟨rb, 1, none⟩) HLT.out).trans K1.2⟩; have hlt2 : rb < w2.heap.size := Nat.lt_of_lt_of_le HLT.out hb2.size; have K3 : ∀ o, (w2.alloc o).cell? ⟨rb, 0, none⟩ = some (.slice a L.length cc) ∧ (w2.alloc o).cell? ⟨rb, 1, none⟩ = some (.int .i64 I) := fun o => ⟨(((Below.refl w2.heap.size w2).alloc (Nat.le_refl _) o).cell (p := ⟨rb, 0, none⟩) hlt2).trans K2.1, (((Below.refl w2.heap.size w2).alloc (Nat.le_refl _) o).cell (p := ⟨rb, 1, none⟩) hlt2).trans K2.2⟩) | (go_at_call 84; (with_reducible refine (HP.out _ AA.out).mono ?_); rintro e w2 ⟨hb2, v, rfl, hO⟩; rw [← HFL.out] at hO; obtain ⟨ea, ec, rfl, -⟩ := hO.form; have hO := Lib.hid hO; have K2 : w2.cell? ⟨rb, 0, none⟩ = some (.slice a L.length cc) ∧ w2.cell? ⟨rb, 1, none⟩ = some (.int .i64 I) := ⟨(hb2.cell (p := ⟨rb, 0, none⟩) hltA).trans (KA _).1, (hb2.cell (p := ⟨rb, 1, none⟩) hltA).trans (KA _).2⟩; have KF : Blk w2 w1.heap.size #[.int .i64 0, .int .i64 0] 25 := KF0.out.below hb2; obtain ⟨z0, z1, zf0, zf1⟩ := two_c KF; have KF := Lib.hid KF; have K5 : ∀ u v, ((w2.setCell ⟨w1.heap.size, 0, none⟩ u).setCell ⟨w1.heap.size, 1, none⟩ v).cell? ⟨rb, 0, none⟩ = some (.slice a L.length cc) ∧ ((w2.setCell ⟨w1.heap.size, 0, none⟩ u).setCell ⟨w1.heap.size, 1, none⟩ v).cell? ⟨rb, 1, none⟩ = some (.int .i64 I) := fun u v => ⟨((Fr.trans (Fr.set_at w2 w1.heap.size 0 u) (Fr.set_at _ _ 1 v) (fun _ _ q => q)).cell (p := ⟨rb, 0, none⟩) (Nat.lt_of_lt_of_le hltA hb2.size) hne).trans K2.1, ((Fr.trans (Fr.set_at w2 w1.heap.size 0 u) (Fr.set_at _ _ 1 v) (fun _ _ q => q)).cell (p := ⟨rb, 1, none⟩) (Nat.lt_of_lt_of_le hltA hb2.size) hne).trans K2.2⟩))
      · obtain ⟨W, hW⟩ : ∃ W, W = w2.alloc (.cells #[.int .i64 0, .int .i64 0] 25) := ⟨_, rfl⟩
        have hA : Al rb w1 W := by rw [hW]; exact Fr.of_below (below_next (below_next ((Below.refl w1.heap.size w1).drew) hb2) ((Below.refl _ _).alloc (Nat.le_refl _) _)) _
        have hR : Rp L a cc rb W ⟨I, 0, p⟩ := HR.out.fr (S := fun k => k = rb ∧ k ≠ rb) (by rw [hW]; exact Fr.of_below (below_next (below_next ((Below.refl w1.heap.size w1).drew) hb2) ((Below.refl _ _).alloc (Nat.le_refl _) _)) _) (fun h => h.2 h.1)
        have hF : Blk W w2.heap.size #[.int .i64 0, .int .i64 0] 25 := by rw [hW]; exact Blk.new w2 _ _
        have hO3 : OwnE w1.heap.size W (.slice ea fl.length ec) fl := by rw [hW]; exact (hO.out.mono (Nat.le_refl _)).below ((Below.refl _ _).alloc (Nat.le_refl _) _)
        obtain ⟨y0, y1, -, -⟩ := two_c hF
        obtain ⟨c0, c1, c2, c3⟩ := hR.cells
        obtain ⟨f0, f1, f2, f3⟩ := hR.free
        simp only at c1 c2 c3
        have HR2 := Lib.hid hR
        have HA := Lib.hid hA
        have HO3 := Lib.hid hO3
        rw [← hW]
        clear hW hR hA hF hO hO3
        go_wp2_with fail
        go_ret
        exact ⟨_, rfl, by rw [HXI.out]; show OwnE _ _ _ (F.flat 0); rw [← HFL.out]; exact Al.ownE ((Al.refl rb W).set 1 _) HO3.out HLT.out, by rw [HXI.out]; exact HR2.out.setI j (HPL.out _ _ rfl), HA.out.set _ _⟩
      · obtain ⟨W, hW⟩ : ∃ W, W = (w2.setCell ⟨w1.heap.size, 0, none⟩ (.int .i64 0)).setCell ⟨w1.heap.size, 1, none⟩ (.int .i64 0) := ⟨_, rfl⟩
        have hA : Al rb w1 W := by rw [hW]; exact Fr.trans (Fr.of_below (below_next (((Below.refl w1.heap.size w1).alloc (Nat.le_refl _) _).drew) hb2) _) (Fr.trans (Fr.set_at w2 w1.heap.size 0 _) (Fr.set_at _ _ 1 _) (fun _ _ q => q)) (fun i hi e => by omega)
        have hR : Rp L a cc rb W ⟨I, 0, p⟩ := HR.out.fr (S := fun k => k = rb ∧ k ≠ rb) (by rw [hW]; exact Fr.trans (Fr.of_below (below_next (((Below.refl w1.heap.size w1).alloc (Nat.le_refl _) _).drew) hb2) _) (Fr.trans (Fr.set_at w2 w1.heap.size 0 _) (Fr.set_at _ _ 1 _) (fun _ _ q => q)) (fun i hi e => by omega)) (fun h => h.2 h.1)
        have hF : Blk W w1.heap.size #[.int .i64 0, .int .i64 0] 25 := by rw [hW]; have h := Blk.setAt (Blk.setAt KF.out 0 (.int .i64 0)) 1 (.int .i64 0); simpa using h
        have hO3 : OwnE w1.heap.size W (.slice ea fl.length ec) fl := by rw [hW]; exact Fr.ownsRow (S := fun k => k = w1.heap.size) (Fr.trans (Fr.set_at w2 w1.heap.size 0 _) (Fr.set_at _ _ 1 _) (fun _ _ q => q)) (hO.out.mono (show w1.heap.size ≤ (w1.alloc (.cells #[.int .i64 0, .int .i64 0] 25)).drew.heap.size from AA.out.size)) (fun k hk (e : k = w1.heap.size) => by have h := (World.ownsRow.lt hO.out k hk).1; have h2 : (w1.alloc (.cells #[.int .i64 0, .int .i64 0] 25)).drew.heap.size = w1.heap.size + 1 := (by simp [World.drew]); omega)
        obtain ⟨y0, y1, -, -⟩ := two_c hF
        obtain ⟨c0, c1, c2, c3⟩ := hR.cells
        obtain ⟨f0, f1, f2, f3⟩ := hR.free
        simp only at c1 c2 c3
        have HR2 := Lib.hid hR
        have HA := Lib.hid hA
        have HO3 := Lib.hid hO3
        rw [← hW]
        clear hW hR hA hF hO hO3
        go_wp2_with fail
        go_ret
        exact ⟨_, rfl, by rw [HXI.out]; show OwnE _ _ _ (F.flat 0); rw [← HFL.out]; exact Al.ownE ((Al.refl rb W).set 1 _) HO3.out HLT.out, by rw [HXI.out]; exact HR2.out.setI j (HPL.out _ _ rfl), HA.out.set _ _⟩
  · rw [decide_eq_false hc] at hok
    have HF : Hid (exprR X s = ([], s)) := by show _ = _; unfold exprR; rw [if_neg hc]
    have HR := Lib.hid hR
    clear hB hR hc EV hX
    go_enter Tryz.func71, Tryz.ntmps71
    go_wp2_with fail
    refine hok.mono ?_
    rintro e w1 ⟨rfl, rfl⟩
    clear hok
    go_wp2_with fail
    go_ret
    exact ⟨_, rfl, by rw [HF.out]; exact OwnE.nil_ _ _, by rw [HF.out]; exact HR.out, Al.refl _ _⟩
end
end Go.Proofs.YtahalimekacliaaGreatDoor
