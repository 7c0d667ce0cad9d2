/- The reader of programs: lists in round signs: the walk. (Printed by gen/between.py.) The reader of programs: lists: the walk. (Printed by gen/many.py.) The reader of programs: lists in round signs: the walk. (Printed by gen/between.py.) -/
import Derived.Test.YtahalimekacliaaGreatDoorJ13
import Derived.Test.YtahalimekacliaaGreatDoorJ34
set_option linter.unusedVariables false
set_option linter.unusedSimpArgs false
namespace Go.Proofs.YtahalimekacliaaGreatDoor
open Go.RowKit Go.Shelf Tx Px Mx Gx
structure BtC (w : World) (rb x0 x1 x2 eb : Nat) (fv : Value) (Tf : Nat) (t : ByteArray) (b : Bool) : Prop where
  k0 : Blk w x0 #[.pointer (some ⟨rb, 0, none⟩)] 55
  k1 : Blk w x1 #[fv] Tf
  k2 : Blk w x2 #[.string t] 9
  ke : Blk w eb #[.bool (!b)] 4
  ne : rb < x0 ∧ x0 < x1 ∧ x1 < x2 ∧ x2 < eb
section
variable {w w' : World} {rb x0 x1 x2 eb Tf : Nat} {fv : Value} {t : ByteArray} {b : Bool}
theorem BtC.fr {S : Nat → Prop} (h : BtC w rb x0 x1 x2 eb fv Tf t b) (hf : Fr S w w') (h0 : ¬ S x0) (h1 : ¬ S x1) (h2 : ¬ S x2) (he : ¬ S eb) : BtC w' rb x0 x1 x2 eb fv Tf t b :=
  ⟨hf.blk' h.k0 h0, hf.blk' h.k1 h1, hf.blk' h.k2 h2, hf.blk' h.ke he, h.ne⟩
theorem BtC.below (h : BtC w rb x0 x1 x2 eb fv Tf t b) (hb : Below w.heap.size w w') : BtC w' rb x0 x1 x2 eb fv Tf t b := h.fr (S := fun _ => False) (Fr.of_below hb _) id id id id
theorem BtC.al (h : BtC w rb x0 x1 x2 eb fv Tf t b) (ha : Al rb w w') : BtC w' rb x0 x1 x2 eb fv Tf t b := by
  obtain ⟨n0, n1, n2, n3⟩ := h.ne
  exact h.fr ha (fun e => by omega) (fun e => by omega) (fun e => by omega) (fun e => by omega)
theorem BtC.set (h : BtC w rb x0 x1 x2 eb fv Tf t b) (b' : Bool) : BtC (w.setCell ⟨eb, 0, none⟩ (.bool (!b'))) rb x0 x1 x2 eb fv Tf t b' := by
  obtain ⟨n0, n1, n2, n3⟩ := h.ne
  exact ⟨h.k0.other 0 (by omega) _, h.k1.other 0 (by omega) _, h.k2.other 0 (by omega) _, h.ke.set1 _, h.ne⟩
end
theorem BtC.steady {rb x0 x1 x2 eb Tf nb : Nat} {fv : Value} {t : ByteArray} (he : eb < nb) : Steady nb (fun W _ b => BtC W rb x0 x1 x2 eb fv Tf t b) := fun W W' s b h hk => by
  obtain ⟨n0, n1, n2, n3⟩ := h.ne
  exact ⟨(hk _ (by omega)).trans h.k0, (hk _ (by omega)).trans h.k1, (hk _ (by omega)).trans h.k2, (hk _ he).trans h.ke, h.ne⟩
theorem take_true {L : List Tok} {t : ByteArray} {s : Rs} (h : takeB L t s = true) : markR L s = t ∧ takeR L t s = nextR s := by
  unfold takeB at h; have h := of_decide_eq_true h; exact ⟨h, by unfold takeR; rw [if_pos h]⟩
theorem take_false {L : List Tok} {t : ByteArray} {s : Rs} (h : takeB L t s = false) : markR L s ≠ t ∧ takeR L t s = s := by
  unfold takeB at h; have h := of_decide_eq_false h; exact ⟨h, by unfold takeR; rw [if_neg h]⟩
theorem Al.two {rb eb : Nat} {w w' : World} (h : Al rb w w') : Fr (fun k => k = rb ∨ k = eb) w w' := Fr.mono h (fun _ _ q => Or.inl q)
theorem Fr.al_of {rb eb : Nat} {w0 w w' : World} (h : Al rb w0 w) (k : Fr (fun k => k = rb ∨ k = eb) w w') (he : eb = rb ∨ w0.heap.size ≤ eb) : Al rb w0 w' := Fr.trans h k (fun i hi q => by omega)
section
variable {L : List Tok} {a : Option Addr} {cc rb : Nat} {w0 : World}
set_option maxRecDepth 100000 in
set_option maxHeartbeats 4000000 in
theorem bonePm_any (EV : Hid (EnvOk w0 rb a cc L)) (t : ByteArray) (ht : t ≠ noS) (x0 x1 x2 eb : Nat) (b : Bool) (s : Rs) (w : World) (hB : Al rb w0 w) (hR : Rp L a cc rb w s) (hK : BtC w rb x0 x1 x2 eb (.func (.func 37) #[.pointer (some ⟨rb, 0, none⟩)] #[]) 77 t b) (heb : w0.heap.size ≤ eb) :
    Calls Tryz.prog 64 #[.pointer (some ⟨x1, 0, none⟩), .pointer (some ⟨x0, 0, none⟩), .pointer (some ⟨eb, 0, none⟩), .pointer (some ⟨x2, 0, none⟩)] w fun e w' => ∃ (n : ByteArray) (ty : Int), e = .returned (.agg #[.string n, .int .i64 ty]) ∧ PPm w.heap.size w' [.string n, .int .i64 ty] (sepR L (paramR L) t s).1.1 ∧ Rp L a cc rb w' (sepR L (paramR L) t s).2 ∧ BtC w' rb x0 x1 x2 eb (.func (.func 37) #[.pointer (some ⟨rb, 0, none⟩)] #[]) 77 t (sepR L (paramR L) t s).1.2 ∧ Fr (fun k => k = rb ∨ k = eb) w w' := by
  obtain ⟨hn0, hn1, hn2, hn3⟩ := hK.ne
  have hebw := hK.ke.lt
  obtain ⟨s1, hs1⟩ : ∃ s1, s1 = (paramR L s).2 := ⟨_, rfl⟩
  obtain ⟨x, hx⟩ : ∃ x, x = (paramR L s).1 := ⟨_, rfl⟩
  have HS : Hid (sepR L (paramR L) t s = if markR L s1 = tRpar then ((x, false), nextR s1) else ((x, true), needR L t s1)) := by show _ = _; rw [hs1, hx]; rfl
  obtain ⟨W0, hW0⟩ : ∃ W0, W0 = w.alloc (.cells #[.string ⟨#[]⟩, .int .i64 0] 39) := ⟨_, rfl⟩
  have b0 : Below w.heap.size w W0 := by rw [hW0]; exact (Below.refl _ _).alloc (Nat.le_refl _) _
  have RES0 : Hid (Blk W0 w.heap.size #[.string ⟨#[]⟩, .int .i64 0] 39) := by show Blk _ _ _ _; rw [hW0]; exact Blk.new w _ _
  have HW0 := Lib.hid hW0
  have A0 : Hid (Al rb w W0) := Al.of b0
  have hB0 : Al rb w0 W0 := hB.then b0
  have hcall := pparam_any EV s W0 hB0 (hR.below b0)
  rw [← hs1, ← hx] at hcall
  have hK0 := hK.below b0
  have q0 := (one_cell hK0.k0).1
  have q1 := (one_cell hK0.k1).1
  have HK0 := Lib.hid hK0
  have HB0 := Lib.hid hB0
  clear hs1 hB hR hK hK0 hB0
  have hszW : w.heap.size < W0.heap.size := RES0.out.lt
  clear b0 hx hW0
  go_enter Tryz.func64, Tryz.ntmps64
  go_upto_region 1 with fail
  rw [← HW0.out]
  go_wp2_with fail
  refine hcall.mono ?_
  rintro e w1 ⟨rfl, hR1, hA1⟩
  obtain ⟨n, ty⟩ := x
  have HX : Hid (PPm w.heap.size w [.string n, .int .i64 ty] ⟨n, ty⟩) := by show PPm _ _ _ _; rfl
  simp only
  obtain ⟨W1, hW1⟩ : ∃ W1, W1 = w1.alloc (.cells #[.string n, .int .i64 ty] 39) := ⟨_, rfl⟩
  have b1 : Below w1.heap.size w1 W1 := by rw [hW1]; exact (Below.refl _ _).alloc (Nat.le_refl _) _
  have hlt1 : w.heap.size < w1.heap.size := by have := hA1.size; omega
  have P1 : Hid (Blk W1 w1.heap.size #[.string n, .int .i64 ty] 39) := by show Blk _ _ _ _; rw [hW1]; exact Blk.new w1 _ _
  have RES1 : Hid (Blk W1 w.heap.size #[.string ⟨#[]⟩, .int .i64 0] 39) := (hA1.blk RES0.out (by omega)).below b1
  have HW1 := Lib.hid hW1
  have A1 : Hid (Al rb w W1) := (A0.out.next hA1).then b1
  have HB1 : Hid (Al rb w0 W1) := (HB0.out.next hA1).then b1
  have hK1 := (HK0.out.al hA1).below b1
  have htk := ptake_any EV ⟨#[41]⟩ (by decide) s1 W1 HB1.out (hR1.below b1)
  obtain ⟨q0, -⟩ := one_cell hK1.k0
  have HK1 := Lib.hid hK1
  have HTB : Hid (takeB L ⟨#[41]⟩ s1 = takeB L tRpar s1) := Lib.hid rfl
  obtain ⟨tb, htb⟩ : ∃ tb, tb = takeB L ⟨#[41]⟩ s1 := ⟨_, rfl⟩
  rw [← htb] at htk
  have HTB := Lib.hid htb
  clear hcall hR1 hA1 b1 hK1 htb
  clear hW1
  go_upto_region 2 with fail
  rw [← HW1.out]
  go_wp2_with fail
  refine htk.mono ?_
  rintro e w2 ⟨rfl, hR2, hA2⟩
  have hK2 := HK1.out.al hA2
  obtain ⟨qe, qef⟩ := one_cell hK2.ke
  have HK2 := Lib.hid hK2
  have HR2 := Lib.hid hR2
  have HA2 := Lib.hid hA2
  clear htk hK2 hR2 hA2
  go_upto_region 3 with fail
  obtain ⟨W3, hW3⟩ : ∃ W3, W3 = w2.setCell ⟨eb, 0, none⟩ (.bool tb) := ⟨_, rfl⟩
  rw [← hW3]
  have F3 : Fr (fun k => k = eb) w2 W3 := by rw [hW3]; exact Fr.set_at w2 eb 0 _
  have hK3 : BtC W3 rb x0 x1 x2 eb (.func (.func 37) #[.pointer (some ⟨rb, 0, none⟩)] #[]) 77 t (!tb) := by
    rw [hW3]; have h := HK2.out.set (!tb); simpa using h
  have HR3 : Hid (Rp L a cc rb W3 (takeR L ⟨#[41]⟩ s1)) := HR2.out.fr F3 (fun e => by omega)
  have HF3 : Hid (Fr (fun k => k = rb ∨ k = eb) w W3) := Fr.trans (A1.out.next HA2.out).two F3 (fun _ _ q => Or.inr q)
  have HB3 : Hid (Al rb w0 W3) := Fr.trans (HB1.out.next HA2.out) F3 (fun i hi e => by omega)
  have ke3 := (one_cell hK3.ke).1
  simp only [Bool.not_not] at ke3
  have q0 := (one_cell hK3.k0).1
  have q2 := (one_cell hK3.k2).1
  have P3 : Hid (Blk W3 w1.heap.size #[.string n, .int .i64 ty] 39) := F3.blk' (HA2.out.blk P1.out (by omega)) (by omega)
  have RES3 : Hid (Blk W3 w.heap.size #[.string ⟨#[]⟩, .int .i64 0] 39) := F3.blk' (HA2.out.blk RES1.out (by omega)) (by omega)
  have HK3 := Lib.hid hK3
  clear hW3 F3 hK3
  cases tb
  · obtain ⟨hm1, hm2⟩ := take_false HTB.out.symm
    have HF : Hid (sepR L (paramR L) t s = (((⟨n, ty⟩ : Pm), true), needR L t s1)) := by show _ = _; rw [HS.out, if_neg (show ¬ markR L s1 = tRpar from hm1)]
    rw [hm2] at HR3
    have hb4 : Below W3.heap.size W3 (W3.alloc (.cells #[.string t] 9)) := (Below.refl _ _).alloc (Nat.le_refl _) _
    have hnd := pneed_any EV W3.heap.size [t] (by simp) (fun u hu => by rw [List.mem_singleton.1 hu]; exact ht) s1 (W3.alloc (.cells #[.string t] 9)) (HB3.out.then hb4) (HR3.out.below hb4) (Blk.new W3 _ _) (by have := HR3.out.lt; omega)
    have e2 : needL L [t] s1 = needR L t s1 := rfl
    rw [e2] at hnd
    have HB4 := Lib.hid hb4
    clear hm1 hm2 e2 hb4
    go_wp2_with fail
    refine hnd.mono ?_
    rintro e w4 ⟨rfl, hR4, hA4⟩
    obtain ⟨WL, hWL⟩ : ∃ WL, WL = w4 := ⟨_, rfl⟩
    have HRL : Hid (Rp L a cc rb WL (needR L t s1)) := by rw [hWL]; exact hR4
    have FL : Hid (Fr (fun k => k = rb ∨ k = eb) w WL) := by rw [hWL]; exact (HF3.out.trans (Fr.of_below HB4.out _) (fun _ _ q => q)).trans hA4 (fun _ _ q => Or.inl q)
    have HKL := Lib.hid (by rw [hWL]; exact (HK3.out.below HB4.out).al hA4 : BtC WL rb x0 x1 x2 eb _ _ t _)
    have HRES : Hid (Blk WL w.heap.size #[.string ⟨#[]⟩, .int .i64 0] 39) := by rw [hWL]; exact hA4.blk (RES3.out.below HB4.out) (by omega)
    have hP4 := hA4.blk (P3.out.below HB4.out) (by omega)
    rw [← hWL] at hP4
    obtain ⟨k0, k1, -, -⟩ := two_c hP4
    obtain ⟨r0, r1, rf0, rf1⟩ := two_c HRES.out
    clear hnd hR4 hA4 hP4
    rw [← hWL]
    clear hWL
    go_wp2_with fail
    (
      obtain ⟨W8, hW8⟩ : ∃ W8, W8 = (WL.setCell ⟨w.heap.size, 0, none⟩ (.string n)).setCell ⟨w.heap.size, 1, none⟩ (.int .i64 ty) := ⟨_, rfl⟩
      have K8 : Blk W8 w.heap.size #[.string n, .int .i64 ty] 39 := by
        rw [hW8]; have h1 := Blk.setAt (Blk.setAt HRES.out 0 (.string n)) 1 (.int .i64 ty); simpa using h1
      have F8 : Fr (fun k => k = w.heap.size) WL W8 := by rw [hW8]; exact Fr.trans (Fr.set_at WL _ 0 _) (Fr.set_at _ _ 1 _) (fun _ _ q => q)
      obtain ⟨z0, z1, -, -⟩ := two_c K8
      rw [← hW8]
      refine bodyPost_ret (v := .agg #[.string n, .int .i64 ty]) (by simp [results, Tryz.results64, go_sem, z0, z1]) rfl ?_
      exact ⟨n, ty, rfl, by rw [HF.out]; exact HX.out, by rw [HF.out]; exact HRL.out.fr F8 (fun e => by omega), by rw [HF.out]; exact HKL.out.fr F8 (fun e => by omega) (fun e => by omega) (fun e => by omega) (fun e => by omega), Fr.trans FL.out F8 (fun i hi e => by omega)⟩
    )
  · obtain ⟨hm1, hm2⟩ := take_true HTB.out.symm
    have HF : Hid (sepR L (paramR L) t s = (((⟨n, ty⟩ : Pm), false), nextR s1)) := by show _ = _; rw [HS.out, if_pos (show markR L s1 = tRpar from hm1)]
    rw [hm2] at HR3
    have HRL := HR3
    have FL := HF3
    have HKL := HK3
    have HRES := RES3
    obtain ⟨k0, k1, -, -⟩ := two_c P3.out
    obtain ⟨r0, r1, rf0, rf1⟩ := two_c HRES.out
    obtain ⟨WL, rfl⟩ : ∃ WL, WL = W3 := ⟨_, rfl⟩
    clear hm1 hm2
    go_wp2_with fail
    (
      obtain ⟨W8, hW8⟩ : ∃ W8, W8 = (WL.setCell ⟨w.heap.size, 0, none⟩ (.string n)).setCell ⟨w.heap.size, 1, none⟩ (.int .i64 ty) := ⟨_, rfl⟩
      have K8 : Blk W8 w.heap.size #[.string n, .int .i64 ty] 39 := by
        rw [hW8]; have h1 := Blk.setAt (Blk.setAt HRES.out 0 (.string n)) 1 (.int .i64 ty); simpa using h1
      have F8 : Fr (fun k => k = w.heap.size) WL W8 := by rw [hW8]; exact Fr.trans (Fr.set_at WL _ 0 _) (Fr.set_at _ _ 1 _) (fun _ _ q => q)
      obtain ⟨z0, z1, -, -⟩ := two_c K8
      rw [← hW8]
      refine bodyPost_ret (v := .agg #[.string n, .int .i64 ty]) (by simp [results, Tryz.results64, go_sem, z0, z1]) rfl ?_
      exact ⟨n, ty, rfl, by rw [HF.out]; exact HX.out, by rw [HF.out]; exact HRL.out.fr F8 (fun e => by omega), by rw [HF.out]; exact HKL.out.fr F8 (fun e => by omega) (fun e => by omega) (fun e => by omega) (fun e => by omega), Fr.trans FL.out F8 (fun i hi e => by omega)⟩
    )
theorem bonPm_any (x0 x1 x2 eb : Nat) (fv : Value) (Tf : Nat) (t : ByteArray) (b : Bool) (w : World) (hK : BtC w rb x0 x1 x2 eb fv Tf t b) :
    Calls Tryz.prog 65 #[.pointer (some ⟨eb, 0, none⟩)] w fun e w' => e = .returned (.bool b) ∧ Below w.heap.size w w' := by
  have qe := (one_cell hK.ke).1
  clear hK
  go_enter Tryz.func65, Tryz.ntmps65
  go_wp2_with fail
  go_ret
  exact ⟨ret_bool (by simp), Below.refl _ _⟩
set_option maxRecDepth 100000 in
set_option maxHeartbeats 4000000 in
theorem betweenPm_any (EV : Hid (EnvOk w0 rb a cc L)) (t : ByteArray) (ht : t ≠ noS) (s : Rs) (w : World) (hB : Al rb w0 w) (hR : Rp L a cc rb w s) :
    Calls Tryz.prog 36 #[.pointer (some ⟨rb, 0, none⟩), .func (.func 37) #[.pointer (some ⟨rb, 0, none⟩)] #[], .string t] w fun e w' => ∃ v, e = .returned v ∧ Rw 39 2 PPm w.heap.size w' v (betweenR L (paramR L) t s).1 ∧ Rp L a cc rb w' (betweenR L (paramR L) t s).2 ∧ Al rb w w' := by
  have hlt := hR.lt
  obtain ⟨W0, hW0⟩ : ∃ W0, W0 = ((w.alloc (.cells #[.pointer (some ⟨rb, 0, none⟩)] 55)).alloc (.cells #[.func (.func 37) #[.pointer (some ⟨rb, 0, none⟩)] #[]] 77)).alloc (.cells #[.string t] 9) := ⟨_, rfl⟩
  have b0 : Below w.heap.size w W0 := by rw [hW0]; exact (((Below.refl _ _).alloc (Nat.le_refl _) _).alloc (by simp) _).alloc (by simp; omega) _
  have k0 : Blk W0 w.heap.size #[.pointer (some ⟨rb, 0, none⟩)] 55 := by
    rw [hW0]; exact ((Blk.new w _ _).below ((Below.refl _ _).alloc (Nat.le_refl _) _)).below ((Below.refl _ _).alloc (Nat.le_refl _) _)
  have k1 : Blk W0 (w.heap.size + 1) #[.func (.func 37) #[.pointer (some ⟨rb, 0, none⟩)] #[]] 77 := by
    rw [hW0]; have h := (Blk.new (w.alloc (.cells #[.pointer (some ⟨rb, 0, none⟩)] 55)) #[.func (.func 37) #[.pointer (some ⟨rb, 0, none⟩)] #[]] 77).below ((Below.refl _ _).alloc (Nat.le_refl _) (.cells #[.string t] 9)); simpa using h
  have k2 : Blk W0 (w.heap.size + 1 + 1) #[.string t] 9 := by
    rw [hW0]; have h := Blk.new ((w.alloc (.cells #[.pointer (some ⟨rb, 0, none⟩)] 55)).alloc (.cells #[.func (.func 37) #[.pointer (some ⟨rb, 0, none⟩)] #[]] 77)) #[.string t] 9; simpa using h
  have hz0 : W0.heap.size = w.heap.size + 3 := by rw [hW0]; simp
  have HW0 := Lib.hid hW0
  have HZ0 := Lib.hid hz0
  obtain ⟨s1, hs1⟩ : ∃ s1, s1 = needR L tLpar s := ⟨_, rfl⟩
  have hb4 : Below W0.heap.size W0 (W0.alloc (.cells #[.string ⟨#[40]⟩] 9)) := (Below.refl _ _).alloc (Nat.le_refl _) _
  have hnd := pneed_any EV W0.heap.size [⟨#[40]⟩] (by simp) (fun u hu => by rw [List.mem_singleton.1 hu]; decide) s (W0.alloc (.cells #[.string ⟨#[40]⟩] 9)) ((hB.then b0).then hb4) ((hR.below b0).below hb4) (Blk.new W0 _ _) (by omega)
  have e2 : needL L [⟨#[40]⟩] s = s1 := hs1.symm
  rw [e2] at hnd
  have HF : Hid (betweenR L (paramR L) t s = if markR L s1 = tRpar then ([], nextR s1) else manyR L (sepR L (paramR L) t) 200 true [] s1) := by show _ = _; rw [hs1]; rfl
  have HB4 : Hid (Al rb w (W0.alloc (.cells #[.string ⟨#[40]⟩] 9))) := (Al.of b0).then hb4
  have HB := Lib.hid hB
  have q0 := (one_cell k0).1
  have K0 := Lib.hid (k0.below hb4)
  have K1 := Lib.hid (k1.below hb4)
  have K2 := Lib.hid (k2.below hb4)
  clear hW0 hz0 hs1 e2 hb4 b0 hB hR k0 k1 k2
  go_enter Tryz.func36, Tryz.ntmps36
  go_upto_region 1 with fail
  rw [← HW0.out]
  go_wp2_with fail
  refine hnd.mono ?_
  rintro e w1 ⟨rfl, hR1, hA1⟩
  have A1 : Hid (Al rb w w1) := HB4.out.next hA1
  have htk := ptake_any EV ⟨#[41]⟩ (by decide) s1 w1 (HB.out.next A1.out) hR1
  have k0 := hA1.blk K0.out (by omega)
  have K1 := Lib.hid (hA1.blk K1.out (by omega))
  have K2 := Lib.hid (hA1.blk K2.out (by omega))
  have q0 := (one_cell k0).1
  have K0 := Lib.hid k0
  obtain ⟨tb, htb⟩ : ∃ tb, tb = takeB L ⟨#[41]⟩ s1 := ⟨_, rfl⟩
  rw [← htb] at htk
  have HTB : Hid (tb = takeB L tRpar s1) := Lib.hid htb
  clear hnd hR1 hA1 k0 htb
  go_wp2_with fail
  refine htk.mono ?_
  rintro e w2 ⟨rfl, hR2, hA2⟩
  have A2 : Hid (Al rb w w2) := A1.out.next hA2
  have k0 := hA2.blk K0.out (by omega)
  have K1 := Lib.hid (hA2.blk K1.out (by omega))
  have K2 := Lib.hid (hA2.blk K2.out (by omega))
  have q0 := (one_cell k0).1
  have K0 := Lib.hid k0
  have HR2 := Lib.hid hR2
  clear htk hR2 hA2 k0
  cases tb
  · obtain ⟨hm1, hm2⟩ := take_false HTB.out.symm
    have HFF : Hid (betweenR L (paramR L) t s = manyR L (sepR L (paramR L) t) 200 true [] s1) := by show _ = _; rw [HF.out, if_neg (show ¬ markR L s1 = tRpar from hm1)]
    have hm2' : takeR L ⟨#[41]⟩ s1 = s1 := hm2
    rw [hm2'] at HR2
    obtain ⟨W3, hW3⟩ : ∃ W3, W3 = w2.alloc (.cells #[.bool false] 4) := ⟨_, rfl⟩
    have b3 : Below w2.heap.size w2 W3 := by rw [hW3]; exact (Below.refl _ _).alloc (Nat.le_refl _) _
    have ke : Blk W3 w2.heap.size #[.bool (!true)] 4 := by rw [hW3]; exact Blk.new w2 _ _
    have hbig : w.heap.size + 3 ≤ w2.heap.size := by have := K2.out.lt; omega
    have hK3 : BtC W3 rb w.heap.size (w.heap.size + 1) (w.heap.size + 1 + 1) w2.heap.size (.func (.func 37) #[.pointer (some ⟨rb, 0, none⟩)] #[]) 77 t true := ⟨K0.out.below b3, K1.out.below b3, K2.out.below b3, ke, hlt, by omega, by omega, by omega⟩
    have hB3 : Al rb w0 W3 := (HB.out.next A2.out).then b3
    have hw0 : w0.heap.size ≤ w2.heap.size := (HB.out.next A2.out).size
    have hmany := pmanyPm_any EV w2.heap.size 64 65 #[] #[.pointer (some ⟨w.heap.size + 1, 0, none⟩), .pointer (some ⟨w.heap.size, 0, none⟩), .pointer (some ⟨w2.heap.size, 0, none⟩), .pointer (some ⟨w.heap.size + 1 + 1, 0, none⟩)] #[] #[.pointer (some ⟨w2.heap.size, 0, none⟩)]
      (fun W _ b => BtC W rb w.heap.size (w.heap.size + 1) (w.heap.size + 1 + 1) w2.heap.size (.func (.func 37) #[.pointer (some ⟨rb, 0, none⟩)] #[]) 77 t b) (sepR L (paramR L) t) W3 (fun W h => hB3.al_of h (Or.inr hw0))
      (BtC.steady ke.lt)
      (fun s W hc hF hR hI => (bonePm_any EV t ht _ _ _ _ true s W (hB3.al_of hF (Or.inr hw0)) hR hI hw0).mono fun e w' ⟨n, ty, h1, h2, h3, h4, h5⟩ => ⟨n, ty, h1, h2, h3, fun _ => h4, h5⟩)
      (fun s b W hc hF hR hI => bonPm_any _ _ _ _ _ _ _ b W hI)
      (fun w => by kernel_rfl) (fun w => by kernel_rfl) s1 true ke.lt (HR2.out.below b3) (fun _ => hK3)
    have A3 : Hid (Al rb w W3) := A2.out.then b3
    have HKB : Hid (w.heap.size ≤ W3.heap.size ∧ w2.heap.size = w2.heap.size) := ⟨A3.out.size, rfl⟩
    have q0 := (one_cell hK3.k0).1
    have HW3 := Lib.hid hW3
    clear hm1 hm2 hm2' b3 ke hK3 hB3 hw0 hW3
    go_upto_region 5 with fail
    rw [← HW3.out]
    go_wp2_with fail
    refine hmany.mono ?_
    rintro e w4 ⟨v, rfl, hv, hR4, hF4⟩
    have HV := Lib.hid (hv.lower HKB.out.1 PPm.lowers)
    have HR4 := Lib.hid hR4
    have A4 : Hid (Al rb w w4) := A3.out.trans hF4 (fun i hi q => by omega)
    clear hmany hv hR4 hF4
    go_wp2_with fail
    go_ret
    exact ⟨v, rfl, by rw [HFF.out]; exact HV.out, by rw [HFF.out]; exact HR4.out, A4.out⟩
  · obtain ⟨hm1, hm2⟩ := take_true HTB.out.symm
    have HFF : Hid (betweenR L (paramR L) t s = ([], nextR s1)) := by show _ = _; rw [HF.out, if_pos (show markR L s1 = tRpar from hm1)]
    have hm2' : takeR L ⟨#[41]⟩ s1 = nextR s1 := hm2
    rw [hm2'] at HR2
    clear hm1 hm2 hm2'
    go_wp2_with fail
    go_ret
    exact ⟨_, rfl, by rw [HFF.out]; exact Rw.nil_, by rw [HFF.out]; exact HR2.out, A2.out⟩
end
end Go.Proofs.YtahalimekacliaaGreatDoor
namespace Go.Proofs.YtahalimekacliaaGreatDoor
open Go.RowKit Go.Shelf Tx Px Mx Gx
section
variable {L : List Tok} {a : Option Addr} {cc rb : Nat} {w0 : World}
def OneEx (L : List Tok) (a : Option Addr) (cc rb eb : Nat) (Inv : World → Rs → Bool → Prop) (w0 : World) (f : Nat) (args : Array Value) (one : Rs → ((List Nd) × Bool) × Rs) : Prop :=
  ∀ (s : Rs) (W : World), s.c = 0 → Fr (fun k => k = rb ∨ k = eb) w0 W → Rp L a cc rb W s → Inv W s true → Calls Tryz.prog f args W fun e w' => ∃ (ea : Option Addr) (en ec : Nat), e = .returned (.slice ea en ec) ∧ PE W.heap.size w' [.slice ea en ec] (one s).1.1 ∧ Rp L a cc rb w' (one s).2 ∧ ((one s).2.c = 0 → Inv w' (one s).2 (one s).1.2) ∧ Fr (fun k => k = rb ∨ k = eb) W w'
set_option maxRecDepth 100000 in
set_option maxHeartbeats 4000000 in
theorem pmanyEx_any (EV : Hid (EnvOk w0 rb a cc L)) (eb f1 f2 : Nat) (b1 c1 b2 c2 : Array Value) (Inv : World → Rs → Bool → Prop) (one : Rs → ((List Nd) × Bool) × Rs) (w : World) (hw0 : ∀ W, Fr (fun k => k = rb ∨ k = eb) w W → Al rb w0 W)
    (HST : Hid (Steady w.heap.size Inv)) (HONE : Hid (OneEx L a cc rb eb Inv w f1 (b1 ++ c1) one)) (HON : Hid (OnIs L a cc rb eb Inv w f2 (b2 ++ c2)))
    (hc1 : ∀ w, (callFunc f1 (b1 ++ c1)).run Tryz.prog w = .ok (.enter f1 (b1 ++ c1)) w) (hc2 : ∀ w, (callFunc f2 (b2 ++ c2)).run Tryz.prog w = .ok (.enter f2 (b2 ++ c2)) w)
    (s : Rs) (b : Bool) (heb : eb < w.heap.size) (hR : Rp L a cc rb w s) (hI : s.c = 0 → Inv w s b) :
    Calls Tryz.prog 99 #[.pointer (some ⟨rb, 0, none⟩), .func (.func f1) b1 c1, .func (.func f2) b2 c2] w fun e w' => ∃ v, e = .returned v ∧ Rw 51 1 PE w.heap.size w' v (manyR L one 200 b [] s).1 ∧ Rp L a cc rb w' (manyR L one 200 b [] s).2 ∧ Fr (fun k => k = rb ∨ k = eb) w w' := by
  obtain ⟨R, hR0⟩ : ∃ R, R = manyR L one 200 b [] s := ⟨_, rfl⟩
  rw [← hR0]
  have HLP : Hid (LpM L a cc rb eb (Rw 51 1 PE w.heap.size) Inv one w R (.slice none 0 0) w) := ⟨200, [], s, b, hR0.symm, rfl, Rw.nil_, hR, hI, Fr.refl _ _⟩
  have hrb := hR.lt
  obtain ⟨nb, hnb⟩ : ∃ nb, nb = w.heap.size := ⟨_, rfl⟩
  rw [← hnb] at HLP heb hrb HST ⊢
  have HNB := Lib.hid hnb
  have HW0 := Lib.hid hw0
  clear hR hI hR0 hnb hw0
  go_enter Tryz.func99, Tryz.ntmps99
  go_wp2_with fail
  go_loopw [7] (fun lv wr => LpM L a cc rb eb (Rw 51 1 PE nb) Inv one w R lv wr) (fun lv _ => 201 - lenV lv)
  case atStart => exact HLP.out
  case round =>
    clear HLP
    obtain ⟨k, acc, s, b, hRR, hk, hrw, hR, hI, hF⟩ := hrel
    obtain ⟨va, vc, rfl, hvc⟩ := hrw.form
    obtain ⟨fl, hfl⟩ : ∃ fl, fl = acc.length := ⟨_, rfl⟩
    rw [← hfl] at hvc hrw ⊢
    have hfk : fl + k = 200 := by omega
    have hok := pok_any s wr hR
    have HFL := Lib.hid hfl
    have HRR := Lib.hid hRR
    have HRW := Lib.hid hrw
    have HR := Lib.hid hR
    have HF := Lib.hid hF
    have HI := Lib.hid hI
    have hnw : nb ≤ wr.heap.size := by rw [HNB.out]; exact hF.size
    clear hfl hRR hrw hR hF hI hk
    by_cases hc : s.c = 0
    · rw [decide_eq_true hc] at hok
      have hon := HON.out s b wr hc HF.out HR.out (HI.out hc)
      have HC := Lib.hid hc
      clear hc
      cases b
      · have HE : Hid (R = (acc, s)) := by show _ = _; rw [← HRR.out, manyR_stop (Or.inr rfl)]
        go_wp2_with fail
        refine hok.mono ?_
        rintro e w1 ⟨rfl, rfl⟩
        go_wp2_with fail
        refine hon.mono ?_
        rintro e w2 ⟨rfl, hb2⟩
        have HB2 := Lib.hid hb2
        clear hok hon hb2
        go_wp2_with fail
        go_ret
        exact ⟨_, rfl, by rw [HE.out]; exact HRW.out.stays (T' := noT) (KpT.below HB2.out) (by decide) (PE.stays (by decide)), by rw [HE.out]; exact HR.out.below HB2.out, HF.out.trans (Fr.of_below HB2.out _) (fun _ _ q => q)⟩
      · match k, HRR, hfk with
        | 0, HRR, hfk =>
          have HE : Hid (R = (acc, failR L 7 s)) := by show _ = _; rw [← HRR.out, manyR_full HC.out]
          have h200 : ((fl : Int) == 200) = true := by rw [beq_iff_eq]; omega
          go_wp2_with fail
          refine hok.mono ?_
          rintro e w1 ⟨rfl, rfl⟩
          go_wp2_with fail
          refine hon.mono ?_
          rintro e w2 ⟨rfl, hb2⟩
          have HB2 := Lib.hid hb2
          have HF2 : Hid (Fr (fun k => k = rb ∨ k = eb) w w2) := HF.out.trans (Fr.of_below hb2 _) (fun _ _ q => q)
          have hfa := pfail_any EV 7 s w2 (HW0.out _ HF2.out) (HR.out.below hb2)
          clear hok hon hb2
          go_wp2_with fail
          refine hfa.mono ?_
          rintro e w3 ⟨rfl, hR3, hA3⟩
          have HR3 := Lib.hid hR3
          have HA3 := Lib.hid hA3
          clear hfa hR3 hA3
          go_wp2_with fail
          go_ret
          exact ⟨_, rfl, by rw [HE.out]; exact (HRW.out.stays (T' := noT) (KpT.below HB2.out) (by decide) (PE.stays (by decide))).stays (T' := noT) (HA3.out.kpT hrb) (by decide) (PE.stays (by decide)), by rw [HE.out]; exact HR3.out, HF2.out.trans HA3.out (fun _ _ q => Or.inl q)⟩
        | k + 1, HRR, hfk =>
          have HE : Hid (manyR L one k (one s).1.2 (acc ++ [(one s).1.1]) (one s).2 = R) := by show _ = _; rw [← HRR.out, manyR_step HC.out]
          have h200 : ((fl : Int) == 200) = false := by rw [beq_eq_false_iff_ne]; omega
          go_wp2_with fail
          refine hok.mono ?_
          rintro e w1 ⟨rfl, rfl⟩
          go_wp2_with fail
          refine hon.mono ?_
          rintro e w2 ⟨rfl, hb2⟩
          have HF2 : Hid (Fr (fun k => k = rb ∨ k = eb) w w2) := HF.out.trans (Fr.of_below hb2 _) (fun _ _ q => q)
          have hone := HONE.out s w2 HC.out HF2.out (HR.out.below hb2) (HST.out _ _ _ _ (HI.out HC.out) (fun g hg => hb2.block g (by omega)))
          have HB2 := Lib.hid hb2
          clear hok hon hb2
          go_wp2_with fail
          refine hone.mono ?_
          rintro e w3 ⟨ea, en, ec, rfl, hP3, hR3, hI3, hF3⟩
          have hn3 : nb ≤ w3.heap.size := by have := HF2.out.size; have := hF3.size; have := HNB.out; omega
          obtain ⟨cs, hC⟩ := (HRW.out.stays (T' := noT) (KpT.below HB2.out) (by decide) (PE.stays (by decide))).stays (T' := noT) (KpT.fr hF3 (fun g hg => by omega)) (by decide) (PE.stays (by decide))
          have hown := hC.own
          have HP3 : Hid (PE nb w3 [.slice ea en ec] (one s).1.1) := PE.lowers _ _ _ _ _ hP3 (by have := HF2.out.size; have := HNB.out; omega)
          rw [← HFL.out] at hown
          have HCC := Lib.hid hC
          have HR3 := Lib.hid hR3
          have HI3 := Lib.hid hI3
          have HF3 : Hid (Fr (fun k => k = rb ∨ k = eb) w w3) := HF2.out.trans hF3 (fun _ _ q => q)
          clear hone hP3 hC hR3 hI3 hF3
          go_wp2_with (at_builtin; refine wpList_app rowE rfl _ _ rfl nb _ _ _ rfl (hown.alloc _) ⟨w3.heap.size, 0, none⟩ 1 [.slice ea en ec] rfl rfl ?c1 ?c2 ?c3 ?c4 (w3.heap.size + 1) ?c5 ?_)
          case c1 => exact World.news_of_block (heap_alloc_new w3 _)
          case c2 => simp [Value.oneCell']
          case c3 => omega
          case c4 => simp; omega
          case c5 => simp
          intro g cap w4 hown4 hgrow hat hlt4 hcap
          have hlow := fun g hg => (World.ownsRow.lt hown g hg).1
          have hB4 : Below nb w3 w4 := ((Below.refl nb w3).alloc hn3 _).grown hgrow (by simp; omega) hlow
          have HRW4 : Hid (Rw 51 1 PE nb w4 (.slice (some ⟨g, 0, none⟩) (fl + 1) cap) (acc ++ [(one s).1.1])) := HCC.out.push (PE.stays (by decide)) HP3.out rfl hgrow (by rw [← HFL.out, List.flatMap_id]; exact hown4)
          have HR4 : Hid (Rp L a cc rb w4 (one s).2) := ⟨(hB4.block rb hrb).trans HR3.out.blk, HR3.out.le⟩
          have HI4 : Hid ((one s).2.c = 0 → Inv w4 (one s).2 (one s).1.2) := fun h => HST.out _ _ _ _ (HI3.out h) (fun g hg => hB4.block g hg)
          have HF4 : Hid (Fr (fun k => k = rb ∨ k = eb) w w4) := Fr.thenB HF3.out (by rw [← HNB.out]; exact hB4)
          clear hown hown4 hgrow hat hlt4 hlow hB4 hn3
          go_wp2_with fail
          go_roundw
          case rel => exact ⟨k, _, _, _, HE.out, by rw [List.length_append, ← HFL.out]; simp; omega, HRW4.out, HR4.out, HI4.out, HF4.out⟩
          case measure => simp [lenV]; omega
    · rw [decide_eq_false hc] at hok
      have HE : Hid (R = (acc, s)) := by show _ = _; rw [← HRR.out, manyR_stop (Or.inl hc)]
      clear hc
      go_wp2_with fail
      refine hok.mono ?_
      rintro e w1 ⟨rfl, rfl⟩
      clear hok
      go_wp2_with fail
      go_ret
      exact ⟨_, rfl, by rw [HE.out]; exact HRW.out, by rw [HE.out]; exact HR.out, HF.out⟩
end
end Go.Proofs.YtahalimekacliaaGreatDoor
namespace Go.Proofs.YtahalimekacliaaGreatDoor
open Go.RowKit Go.Shelf Tx Px Mx Gx
section
variable {L : List Tok} {a : Option Addr} {cc rb : Nat} {w0 : World}
set_option maxRecDepth 100000 in
set_option maxHeartbeats 4000000 in
theorem boneEx_any (EV : Hid (EnvOk w0 rb a cc L)) {X : XO} (hX : Hid (XOk L X)) (t : ByteArray) (ht : t ≠ noS) (x0 x1 x2 eb : Nat) (b : Bool) (s : Rs) (w : World) (hB : Al rb w0 w) (hR : Rp L a cc rb w s) (hK : BtC w rb x0 x1 x2 eb (.func (.func 71) #[.pointer (some ⟨rb, 0, none⟩)] #[]) 106 t b) (heb : w0.heap.size ≤ eb) :
    Calls Tryz.prog 100 #[.pointer (some ⟨x1, 0, none⟩), .pointer (some ⟨x0, 0, none⟩), .pointer (some ⟨eb, 0, none⟩), .pointer (some ⟨x2, 0, none⟩)] w fun e w' => ∃ (ea : Option Addr) (en ec : Nat), e = .returned (.slice ea en ec) ∧ PE w.heap.size w' [.slice ea en ec] (sepR L (exprR X) t s).1.1 ∧ Rp L a cc rb w' (sepR L (exprR X) t s).2 ∧ BtC w' rb x0 x1 x2 eb (.func (.func 71) #[.pointer (some ⟨rb, 0, none⟩)] #[]) 106 t (sepR L (exprR X) t s).1.2 ∧ Fr (fun k => k = rb ∨ k = eb) w w' := by
  obtain ⟨hn0, hn1, hn2, hn3⟩ := hK.ne
  have hebw := hK.ke.lt
  obtain ⟨s1, hs1⟩ : ∃ s1, s1 = (exprR X s).2 := ⟨_, rfl⟩
  obtain ⟨x, hx⟩ : ∃ x, x = (exprR X s).1 := ⟨_, rfl⟩
  have HS : Hid (sepR L (exprR X) t s = if markR L s1 = tRpar then ((x, false), nextR s1) else ((x, true), needR L t s1)) := by show _ = _; rw [hs1, hx]; rfl
  obtain ⟨W0, hW0⟩ : ∃ W0, W0 = w := ⟨_, rfl⟩
  have b0 : Below w.heap.size w W0 := by rw [hW0]; exact Below.refl _ _
  have A0 : Hid (Al rb w W0) := Al.of b0
  have hB0 : Al rb w0 W0 := hB.then b0
  have hcall := pexpr_any EV hX s W0 hB0 (hR.below b0)
  rw [← hs1, ← hx] at hcall
  have hK0 := hK.below b0
  have q0 := (one_cell hK0.k0).1
  have q1 := (one_cell hK0.k1).1
  have HK0 := Lib.hid hK0
  have HB0 := Lib.hid hB0
  clear hs1 hB hR hK hK0 hB0
  subst hW0
  clear b0 hx
  go_enter Tryz.func100, Tryz.ntmps100
  go_wp2_with fail
  refine hcall.mono ?_
  rintro e w1 ⟨v, rfl, hO1, hR1, hA1⟩
  obtain ⟨ea, ec, rfl, -⟩ := hO1.form
  obtain ⟨en, hen⟩ : ∃ en, en = x.length := ⟨_, rfl⟩
  rw [← hen] at hO1 ⊢
  have HO1 : Hid (PE W0.heap.size w1 [.slice ea en ec] x) := ⟨_, rfl, by rw [hen] at hO1 ⊢; exact hO1⟩
  clear hO1 hen
  obtain ⟨W1, hW1⟩ : ∃ W1, W1 = w1 := ⟨_, rfl⟩
  have b1 : Below w1.heap.size w1 W1 := by rw [hW1]; exact Below.refl _ _
  have A1 : Hid (Al rb W0 W1) := (A0.out.next hA1).then b1
  have HB1 : Hid (Al rb w0 W1) := (HB0.out.next hA1).then b1
  have hK1 := (HK0.out.al hA1).below b1
  have htk := ptake_any EV ⟨#[41]⟩ (by decide) s1 W1 HB1.out (hR1.below b1)
  obtain ⟨q0, -⟩ := one_cell hK1.k0
  have HK1 := Lib.hid hK1
  have HTB : Hid (takeB L ⟨#[41]⟩ s1 = takeB L tRpar s1) := Lib.hid rfl
  obtain ⟨tb, htb⟩ : ∃ tb, tb = takeB L ⟨#[41]⟩ s1 := ⟨_, rfl⟩
  rw [← htb] at htk
  have HTB := Lib.hid htb
  clear hcall hR1 hA1 b1 hK1 htb
  subst hW1
  go_wp2_with fail
  refine htk.mono ?_
  rintro e w2 ⟨rfl, hR2, hA2⟩
  have hK2 := HK1.out.al hA2
  obtain ⟨qe, qef⟩ := one_cell hK2.ke
  have HK2 := Lib.hid hK2
  have HR2 := Lib.hid hR2
  have HA2 := Lib.hid hA2
  clear htk hK2 hR2 hA2
  go_upto_region 3 with fail
  obtain ⟨W3, hW3⟩ : ∃ W3, W3 = w2.setCell ⟨eb, 0, none⟩ (.bool tb) := ⟨_, rfl⟩
  rw [← hW3]
  have F3 : Fr (fun k => k = eb) w2 W3 := by rw [hW3]; exact Fr.set_at w2 eb 0 _
  have hK3 : BtC W3 rb x0 x1 x2 eb (.func (.func 71) #[.pointer (some ⟨rb, 0, none⟩)] #[]) 106 t (!tb) := by
    rw [hW3]; have h := HK2.out.set (!tb); simpa using h
  have HR3 : Hid (Rp L a cc rb W3 (takeR L ⟨#[41]⟩ s1)) := HR2.out.fr F3 (fun e => by omega)
  have HF3 : Hid (Fr (fun k => k = rb ∨ k = eb) W0 W3) := Fr.trans (A1.out.next HA2.out).two F3 (fun _ _ q => Or.inr q)
  have HB3 : Hid (Al rb w0 W3) := Fr.trans (HB1.out.next HA2.out) F3 (fun i hi e => by omega)
  have ke3 := (one_cell hK3.ke).1
  simp only [Bool.not_not] at ke3
  have q0 := (one_cell hK3.k0).1
  have q2 := (one_cell hK3.k2).1
  have HO3 : Hid (PE W0.heap.size W3 [.slice ea en ec] x) := PE.stays (T := noT) (by decide) _ _ _ _ _ (PE.stays (T := noT) (by decide) _ _ _ _ _ HO1.out (HA2.out.kpT (by omega))) (KpT.fr F3 (fun g e => by omega))
  have HK3 := Lib.hid hK3
  clear hW3 F3 hK3
  cases tb
  · obtain ⟨hm1, hm2⟩ := take_false HTB.out.symm
    have HF : Hid (sepR L (exprR X) t s = ((x, true), needR L t s1)) := by show _ = _; rw [HS.out, if_neg (show ¬ markR L s1 = tRpar from hm1)]
    rw [hm2] at HR3
    have hb4 : Below W3.heap.size W3 (W3.alloc (.cells #[.string t] 9)) := (Below.refl _ _).alloc (Nat.le_refl _) _
    have hnd := pneed_any EV W3.heap.size [t] (by simp) (fun u hu => by rw [List.mem_singleton.1 hu]; exact ht) s1 (W3.alloc (.cells #[.string t] 9)) (HB3.out.then hb4) (HR3.out.below hb4) (Blk.new W3 _ _) (by have := HR3.out.lt; omega)
    have e2 : needL L [t] s1 = needR L t s1 := rfl
    rw [e2] at hnd
    have HB4 := Lib.hid hb4
    clear hm1 hm2 e2 hb4
    go_wp2_with fail
    refine hnd.mono ?_
    rintro e w4 ⟨rfl, hR4, hA4⟩
    have HRL := Lib.hid hR4
    have FL : Hid (Fr (fun k => k = rb ∨ k = eb) W0 w4) := (HF3.out.trans (Fr.of_below HB4.out _) (fun _ _ q => q)).trans hA4 (fun _ _ q => Or.inl q)
    have HKL := Lib.hid ((HK3.out.below HB4.out).al hA4)
    have HX4 : Hid (PE W0.heap.size w4 [.slice ea en ec] x) := PE.stays (T := noT) (by decide) _ _ _ _ _ (PE.stays (T := noT) (by decide) _ _ _ _ _ HO3.out (KpT.below HB4.out)) (hA4.kpT (by omega))
    clear hnd hR4 hA4
    go_wp2_with fail
    go_ret
    exact ⟨ea, en, ec, rfl, by rw [HF.out]; exact HX4.out, by rw [HF.out]; exact HRL.out, by rw [HF.out]; exact HKL.out, FL.out⟩
  · obtain ⟨hm1, hm2⟩ := take_true HTB.out.symm
    have HF : Hid (sepR L (exprR X) t s = ((x, false), nextR s1)) := by show _ = _; rw [HS.out, if_pos (show markR L s1 = tRpar from hm1)]
    rw [hm2] at HR3
    clear hm1 hm2
    go_wp2_with fail
    go_ret
    exact ⟨ea, en, ec, rfl, by rw [HF.out]; exact HO3.out, by rw [HF.out]; exact HR3.out, by rw [HF.out]; exact HK3.out, HF3.out⟩
theorem bonEx_any (x0 x1 x2 eb : Nat) (fv : Value) (Tf : Nat) (t : ByteArray) (b : Bool) (w : World) (hK : BtC w rb x0 x1 x2 eb fv Tf t b) :
    Calls Tryz.prog 101 #[.pointer (some ⟨eb, 0, none⟩)] w fun e w' => e = .returned (.bool b) ∧ Below w.heap.size w w' := by
  have qe := (one_cell hK.ke).1
  clear hK
  go_enter Tryz.func101, Tryz.ntmps101
  go_wp2_with fail
  go_ret
  exact ⟨ret_bool (by simp), Below.refl _ _⟩
set_option maxRecDepth 100000 in
set_option maxHeartbeats 4000000 in
theorem betweenEx_any (EV : Hid (EnvOk w0 rb a cc L)) {X : XO} (hX : Hid (XOk L X)) (t : ByteArray) (ht : t ≠ noS) (s : Rs) (w : World) (hB : Al rb w0 w) (hR : Rp L a cc rb w s) :
    Calls Tryz.prog 83 #[.pointer (some ⟨rb, 0, none⟩), .func (.func 71) #[.pointer (some ⟨rb, 0, none⟩)] #[], .string t] w fun e w' => ∃ v, e = .returned v ∧ Rw 51 1 PE w.heap.size w' v (betweenR L (exprR X) t s).1 ∧ Rp L a cc rb w' (betweenR L (exprR X) t s).2 ∧ Al rb w w' := by
  have hlt := hR.lt
  obtain ⟨W0, hW0⟩ : ∃ W0, W0 = ((w.alloc (.cells #[.pointer (some ⟨rb, 0, none⟩)] 55)).alloc (.cells #[.func (.func 71) #[.pointer (some ⟨rb, 0, none⟩)] #[]] 106)).alloc (.cells #[.string t] 9) := ⟨_, rfl⟩
  have b0 : Below w.heap.size w W0 := by rw [hW0]; exact (((Below.refl _ _).alloc (Nat.le_refl _) _).alloc (by simp) _).alloc (by simp; omega) _
  have k0 : Blk W0 w.heap.size #[.pointer (some ⟨rb, 0, none⟩)] 55 := by
    rw [hW0]; exact ((Blk.new w _ _).below ((Below.refl _ _).alloc (Nat.le_refl _) _)).below ((Below.refl _ _).alloc (Nat.le_refl _) _)
  have k1 : Blk W0 (w.heap.size + 1) #[.func (.func 71) #[.pointer (some ⟨rb, 0, none⟩)] #[]] 106 := by
    rw [hW0]; have h := (Blk.new (w.alloc (.cells #[.pointer (some ⟨rb, 0, none⟩)] 55)) #[.func (.func 71) #[.pointer (some ⟨rb, 0, none⟩)] #[]] 106).below ((Below.refl _ _).alloc (Nat.le_refl _) (.cells #[.string t] 9)); simpa using h
  have k2 : Blk W0 (w.heap.size + 1 + 1) #[.string t] 9 := by
    rw [hW0]; have h := Blk.new ((w.alloc (.cells #[.pointer (some ⟨rb, 0, none⟩)] 55)).alloc (.cells #[.func (.func 71) #[.pointer (some ⟨rb, 0, none⟩)] #[]] 106)) #[.string t] 9; simpa using h
  have hz0 : W0.heap.size = w.heap.size + 3 := by rw [hW0]; simp
  have HW0 := Lib.hid hW0
  have HZ0 := Lib.hid hz0
  obtain ⟨s1, hs1⟩ : ∃ s1, s1 = needR L tLpar s := ⟨_, rfl⟩
  have hb4 : Below W0.heap.size W0 (W0.alloc (.cells #[.string ⟨#[40]⟩] 9)) := (Below.refl _ _).alloc (Nat.le_refl _) _
  have hnd := pneed_any EV W0.heap.size [⟨#[40]⟩] (by simp) (fun u hu => by rw [List.mem_singleton.1 hu]; decide) s (W0.alloc (.cells #[.string ⟨#[40]⟩] 9)) ((hB.then b0).then hb4) ((hR.below b0).below hb4) (Blk.new W0 _ _) (by omega)
  have e2 : needL L [⟨#[40]⟩] s = s1 := hs1.symm
  rw [e2] at hnd
  have HF : Hid (betweenR L (exprR X) t s = if markR L s1 = tRpar then ([], nextR s1) else manyR L (sepR L (exprR X) t) 200 true [] s1) := by show _ = _; rw [hs1]; rfl
  have HB4 : Hid (Al rb w (W0.alloc (.cells #[.string ⟨#[40]⟩] 9))) := (Al.of b0).then hb4
  have HB := Lib.hid hB
  have q0 := (one_cell k0).1
  have K0 := Lib.hid (k0.below hb4)
  have K1 := Lib.hid (k1.below hb4)
  have K2 := Lib.hid (k2.below hb4)
  clear hW0 hz0 hs1 e2 hb4 b0 hB hR k0 k1 k2
  go_enter Tryz.func83, Tryz.ntmps83
  go_upto_region 1 with fail
  rw [← HW0.out]
  go_wp2_with fail
  refine hnd.mono ?_
  rintro e w1 ⟨rfl, hR1, hA1⟩
  have A1 : Hid (Al rb w w1) := HB4.out.next hA1
  have htk := ptake_any EV ⟨#[41]⟩ (by decide) s1 w1 (HB.out.next A1.out) hR1
  have k0 := hA1.blk K0.out (by omega)
  have K1 := Lib.hid (hA1.blk K1.out (by omega))
  have K2 := Lib.hid (hA1.blk K2.out (by omega))
  have q0 := (one_cell k0).1
  have K0 := Lib.hid k0
  obtain ⟨tb, htb⟩ : ∃ tb, tb = takeB L ⟨#[41]⟩ s1 := ⟨_, rfl⟩
  rw [← htb] at htk
  have HTB : Hid (tb = takeB L tRpar s1) := Lib.hid htb
  clear hnd hR1 hA1 k0 htb
  go_wp2_with fail
  refine htk.mono ?_
  rintro e w2 ⟨rfl, hR2, hA2⟩
  have A2 : Hid (Al rb w w2) := A1.out.next hA2
  have k0 := hA2.blk K0.out (by omega)
  have K1 := Lib.hid (hA2.blk K1.out (by omega))
  have K2 := Lib.hid (hA2.blk K2.out (by omega))
  have q0 := (one_cell k0).1
  have K0 := Lib.hid k0
  have HR2 := Lib.hid hR2
  clear htk hR2 hA2 k0
  cases tb
  · obtain ⟨hm1, hm2⟩ := take_false HTB.out.symm
    have HFF : Hid (betweenR L (exprR X) t s = manyR L (sepR L (exprR X) t) 200 true [] s1) := by show _ = _; rw [HF.out, if_neg (show ¬ markR L s1 = tRpar from hm1)]
    have hm2' : takeR L ⟨#[41]⟩ s1 = s1 := hm2
    rw [hm2'] at HR2
    obtain ⟨W3, hW3⟩ : ∃ W3, W3 = w2.alloc (.cells #[.bool false] 4) := ⟨_, rfl⟩
    have b3 : Below w2.heap.size w2 W3 := by rw [hW3]; exact (Below.refl _ _).alloc (Nat.le_refl _) _
    have ke : Blk W3 w2.heap.size #[.bool (!true)] 4 := by rw [hW3]; exact Blk.new w2 _ _
    have hbig : w.heap.size + 3 ≤ w2.heap.size := by have := K2.out.lt; omega
    have hK3 : BtC W3 rb w.heap.size (w.heap.size + 1) (w.heap.size + 1 + 1) w2.heap.size (.func (.func 71) #[.pointer (some ⟨rb, 0, none⟩)] #[]) 106 t true := ⟨K0.out.below b3, K1.out.below b3, K2.out.below b3, ke, hlt, by omega, by omega, by omega⟩
    have hB3 : Al rb w0 W3 := (HB.out.next A2.out).then b3
    have hw0 : w0.heap.size ≤ w2.heap.size := (HB.out.next A2.out).size
    have hmany := pmanyEx_any EV w2.heap.size 100 101 #[] #[.pointer (some ⟨w.heap.size + 1, 0, none⟩), .pointer (some ⟨w.heap.size, 0, none⟩), .pointer (some ⟨w2.heap.size, 0, none⟩), .pointer (some ⟨w.heap.size + 1 + 1, 0, none⟩)] #[] #[.pointer (some ⟨w2.heap.size, 0, none⟩)]
      (fun W _ b => BtC W rb w.heap.size (w.heap.size + 1) (w.heap.size + 1 + 1) w2.heap.size (.func (.func 71) #[.pointer (some ⟨rb, 0, none⟩)] #[]) 106 t b) (sepR L (exprR X) t) W3 (fun W h => hB3.al_of h (Or.inr hw0))
      (BtC.steady ke.lt)
      (fun s W hc hF hR hI => (boneEx_any EV hX t ht _ _ _ _ true s W (hB3.al_of hF (Or.inr hw0)) hR hI hw0).mono fun e w' ⟨ea, en, ec, h1, h2, h3, h4, h5⟩ => ⟨ea, en, ec, h1, h2, h3, fun _ => h4, h5⟩)
      (fun s b W hc hF hR hI => bonEx_any _ _ _ _ _ _ _ b W hI)
      (fun w => by kernel_rfl) (fun w => by kernel_rfl) s1 true ke.lt (HR2.out.below b3) (fun _ => hK3)
    have A3 : Hid (Al rb w W3) := A2.out.then b3
    have HKB : Hid (w.heap.size ≤ W3.heap.size ∧ w2.heap.size = w2.heap.size) := ⟨A3.out.size, rfl⟩
    have q0 := (one_cell hK3.k0).1
    have HW3 := Lib.hid hW3
    clear hm1 hm2 hm2' b3 ke hK3 hB3 hw0 hW3
    go_upto_region 5 with fail
    rw [← HW3.out]
    go_wp2_with fail
    refine hmany.mono ?_
    rintro e w4 ⟨v, rfl, hv, hR4, hF4⟩
    have HV := Lib.hid (hv.lower HKB.out.1 PE.lowers)
    have HR4 := Lib.hid hR4
    have A4 : Hid (Al rb w w4) := A3.out.trans hF4 (fun i hi q => by omega)
    clear hmany hv hR4 hF4
    go_wp2_with fail
    go_ret
    exact ⟨v, rfl, by rw [HFF.out]; exact HV.out, by rw [HFF.out]; exact HR4.out, A4.out⟩
  · obtain ⟨hm1, hm2⟩ := take_true HTB.out.symm
    have HFF : Hid (betweenR L (exprR X) t s = ([], nextR s1)) := by show _ = _; rw [HF.out, if_pos (show markR L s1 = tRpar from hm1)]
    have hm2' : takeR L ⟨#[41]⟩ s1 = nextR s1 := hm2
    rw [hm2'] at HR2
    clear hm1 hm2 hm2'
    go_wp2_with fail
    go_ret
    exact ⟨_, rfl, by rw [HFF.out]; exact Rw.nil_, by rw [HFF.out]; exact HR2.out, A2.out⟩
end
end Go.Proofs.YtahalimekacliaaGreatDoor
