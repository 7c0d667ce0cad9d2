/- The law AtomsMakes, whatever its arguments: the walk. -/
import Derived.Test.YtjnpkdpljmkpiaaGreatDoorJ34
import Derived.Test.YtjnpkdpljmkpiaaGreatDoorJ36
import Derived.Test.YtjnpkdpljmkpiaaGreatDoorJ26
namespace Go.Proofs.YtjnpkdpljmkpiaaGreatDoor
open Go.RowKit Go.Shelf Tx

theorem pow_few {v : Nat} (h : v ≤ 5) : 2 ^ v ≤ 32 := Nat.pow_le_pow_right (by omega) h
theorem cost_few {n v a b : Nat} (hn : n ≤ 100) (hv : v ≤ 5) (h : a ≤ 2 + (n + (n + n * (2 * 2 ^ v)))) (hb : a = b) : b < 10000 := by
  have h1 := pow_few hv
  have h2 : n * (2 * 2 ^ v) ≤ 100 * 64 := Nat.mul_le_mul hn (by omega)
  omega

set_option maxRecDepth 100000 in
set_option maxHeartbeats 4000000 in
theorem atomsMakes_any (e : List Nd) (v : Value) (vars budget : Int) (w : World) (G : Gl w) (hv : IsE w v e) (hle : e.length ≤ maxLen) (hs : ∀ y ∈ e, y.s.size ≤ 281474976710656) (hvr : -9223372036854775808 ≤ vars ∧ vars ≤ 9223372036854775807) (hbu : -9223372036854775808 ≤ budget ∧ budget ≤ 9223372036854775807) :
    Calls Tryz.prog 7 #[v, .int .i64 vars, .int .i64 budget] w fun r w' => r = .returned (.bool true) ∧ Below w.heap.size w w' := by
  have hlive := fun W (hW : Below w.heap.size w W) => live_any W (G.below hW)
  have HLV := Lib.hid hlive
  have HG := Lib.hid G
  have HV := Lib.hid hv
  have HS := Lib.hid hs
  obtain ⟨a, c, rfl, hc, -⟩ := hv.form
  unfold maxLen at hle
  obtain ⟨n, hn⟩ : ∃ n, n = e.length := ⟨_, rfl⟩
  rw [← hn] at hc hle HV ⊢
  have HN := Lib.hid hn
  obtain ⟨v1, v2⟩ := hvr
  obtain ⟨b1, b2⟩ := hbu
  clear hlive G hv hs hn
  by_cases h100 : 100 < n
  · go_enter Tryz.func7, Tryz.ntmps7
    go_wp2_with fail
    refine (HLV.out _ (Below.refl _ _)).mono ?_
    rintro r w1 ⟨rfl, hb1⟩
    go_wp2_with fail
    go_ret
    exact ⟨rfl, hb1⟩
  · have h100' : n ≤ 100 := by omega
    clear h100
    by_cases hlo : vars < 1
    · go_enter Tryz.func7, Tryz.ntmps7
      go_wp2_with fail
      refine (HLV.out _ (Below.refl _ _)).mono ?_
      rintro r w1 ⟨rfl, hb1⟩
      go_wp2_with fail
      go_ret
      exact ⟨rfl, hb1⟩
    · have hlo' : 1 ≤ vars := by omega
      clear hlo
      by_cases hhi : 5 < vars
      · go_enter Tryz.func7, Tryz.ntmps7
        go_wp2_with fail
        refine (HLV.out _ (Below.refl _ _)).mono ?_
        rintro r w1 ⟨rfl, hb1⟩
        go_wp2_with fail
        go_ret
        exact ⟨rfl, hb1⟩
      · obtain ⟨vr, rfl⟩ : ∃ k : Nat, vars = (k : Int) := ⟨vars.toNat, by omega⟩
        have hvr1 : 1 ≤ vr := by omega
        have hvr5 : vr ≤ 5 := by omega
        clear hhi hlo' v1 v2
        by_cases hbud : 2 ≤ budget ∧ budget ≤ 10000
        · obtain ⟨bu, rfl⟩ : ∃ k : Nat, budget = (k : Int) := ⟨budget.toNat, by omega⟩
          have hbu2 : 2 ≤ bu := by omega
          have hbu1 : bu ≤ 10000 := by omega
          clear hbud b1 b2
          go_enter Tryz.func7, Tryz.ntmps7
          go_wp2_with fail
          refine (New_ok w vr bu (by omega) hbu2 hbu1).mono ?_
          rintro r w6 ⟨s, rfl, hS, hvars, hbud, hns, hb6, hbl⟩
          have hmake := Make_any e (.slice a n c) s w.heap.size w6 (by have := HN.out; omega) HS.out hb6.size (fun W h => Sl.below HV.out (hb6.trans h)) (fun W h => HG.out.below (hb6.trans h)) hS hbl
          have HVA := Lib.hid hvars
          have HBU := Lib.hid hbud
          have HNS := Lib.hid hns
          have HB6 := Lib.hid hb6
          clear hvars hbud hns hbl hb6 hS
          go_wp2_with fail
          refine hmake.mono ?_
          rintro r w7 ⟨nv, er, s7, rfl, hI, hlen, hor⟩
          have HB7 : Hid (Below w.heap.size w w7) := HB6.out.trans hI.below
          have hmay := rMayA_any e (.slice a n c) vr w7 (by have := HN.out; omega) (by omega) (Sl.below HV.out HB7.out)
          rw [HVA.out] at hor hlen
          rw [HNS.out, ← HN.out] at hlen
          rw [HBU.out] at hor
          have HI := Lib.hid hI
          have HLEN := Lib.hid hlen
          clear hmake hI hlen
          rcases hor with ⟨hm, rfl, rfl⟩ | ⟨hm, rfl, rfl, hfull⟩ | ⟨hm, rfl, hden⟩
          · rw [hm] at hmay
            clear hm
            go_wp2_with fail
            refine hmay.mono ?_
            rintro r w8 ⟨rfl, hb8⟩
            have HB8 := Lib.hid (below_next HB7.out hb8)
            clear hmay hb8
            go_wp2_with fail
            refine (HLV.out _ HB8.out).mono ?_
            rintro r w9 ⟨rfl, hb9⟩
            go_wp2_with fail
            go_ret
            exact ⟨rfl, below_next HB8.out hb9⟩
          · rw [hm] at hmay
            have hcost : bu < 10000 := cost_few h100' hvr5 HLEN.out hfull
            clear hm hfull
            go_wp2_with fail
            refine hmay.mono ?_
            rintro r w8 ⟨rfl, hb8⟩
            have HB8 := Lib.hid (below_next HB7.out hb8)
            clear hmay hb8
            go_wp2_with fail
            refine (HLV.out _ HB8.out).mono ?_
            rintro r w9 ⟨rfl, hb9⟩
            go_wp2_with fail
            go_ret
            exact ⟨rfl, below_next HB8.out hb9⟩
          · rw [hm] at hmay
            have HMA := Lib.hid hm
            obtain ⟨f, rfl, hf, hd⟩ := hden
            have hsb : s7.sb = s.sb := HI.out.more.sb
            have hv7 : s7.vars = vr := by rw [HI.out.more.vars]; exact HVA.out
            have HSB := Lib.hid hsb
            have HV7 := Lib.hid hv7
            have HF := Lib.hid hf
            have HD := Lib.hid hd
            have hsh := shl_one (v := vr) (by omega)
            obtain ⟨P2, hP2⟩ : ∃ P2, P2 = 2 ^ vr := ⟨_, rfl⟩
            have hp32 := pow_few hvr5
            rw [← hP2] at hsh hp32
            have HP2 := Lib.hid hP2
            have HLEN7 : Hid ((e.length : Nat) = n) := HN.out.symm
            clear hm hsb hv7 hf hd hP2
            go_wp2_with fail
            refine hmay.mono ?_
            rintro r w8 ⟨rfl, hb8⟩
            have HB8 := Lib.hid hb8
            clear hmay hb8
            go_wp2_with fail
            go_loopw [11] (fun iv wr => ∃ k : Nat, iv = .int .i64 k ∧ k ≤ P2 ∧ Below w7.heap.size w7 wr) (fun iv _ => P2 - (intOf iv).toNat)
            case atStart => exact ⟨0, rfl, Nat.zero_le _, HB8.out⟩
            case round =>
              obtain ⟨k, rfl, hk, hB⟩ := hrel
              have HBR := Lib.hid hB
              clear hB
              by_cases hlt : k < P2
              · have hrow := Row_any wr k vr (by omega)
                go_wp2_with fail
                refine hrow.mono ?_
                rintro r w9 ⟨av, rfl, hav, hb9⟩
                have hb79 := below_next HBR.out hb9
                have hlenr : (Dd.rowList vr k).length = vr := by simp [Dd.rowList]
                have hval := Value_any w9 s7 (HI.out.store.below hb79) f HF.out av (Dd.rowList vr k) hav (by rw [hlenr]; exact HV7.out.symm)
                rw [HD.out (Dd.rowList vr k) (by rw [hlenr]; exact HV7.out.symm), HSB.out] at hval
                have hrv := fun W (hW : Below w9.heap.size w9 W) => rVal21_any e (.slice a n c) (Dd.rowList vr k) av W (by have := HN.out; omega) (by rw [hlenr]; omega) (Sl.below HV.out (below_next (HB7.out.trans (hb79.mono HB7.out.size)) hW)) (hav.below hW)
                rw [valA_yes (by rw [hlenr]; exact HMA.out)] at hrv
                have HRV := Lib.hid hrv
                obtain ⟨la, lc, rfl, -⟩ := hav.form
                rw [hlenr] at hval HRV ⊢
                generalize Ux.valL (Dd.rowList vr k) e = y at hval HRV
                have HB79 := Lib.hid hb79
                clear hrow hav hb9 hlenr hrv hb79
                go_wp2_with fail
                refine hval.mono ?_
                rintro r w10 ⟨rfl, hb10⟩
                clear hval
                go_wp2_with fail
                refine (HRV.out w10 hb10).mono ?_
                rintro r w11 ⟨rfl, hb11⟩
                have HB11 := Lib.hid (below_next (below_next HB79.out hb10) hb11)
                clear hb10 hb11
                have hyy : (y != y) = false := by simp
                go_wp2_with fail
                go_roundw
                case rel => exact ⟨k + 1, by go_num, by omega, HB11.out⟩
                case measure => simp [intOf]; omega
              · have hke : k = P2 := by omega
                subst hke
                have HBE : Hid (Below w.heap.size w wr) := HB7.out.trans (HBR.out.mono HB7.out.size)
                go_wp2_with fail
                refine (HLV.out _ HBE.out).mono ?_
                rintro r w9 ⟨rfl, hb9⟩
                go_wp2_with fail
                go_ret
                exact ⟨rfl, below_next HBE.out hb9⟩
        · go_enter Tryz.func7, Tryz.ntmps7
          go_wp2_with fail
          refine (New_bad w vr budget (by omega)).mono ?_
          rintro r w1 ⟨rfl, hw1⟩
          obtain rfl := hw1
          clear hbud
          go_wp2_with fail
          refine (HLV.out _ (Below.refl _ _)).mono ?_
          rintro r w2 ⟨rfl, hb1⟩
          go_wp2_with fail
          go_ret
          exact ⟨rfl, hb1⟩
end Go.Proofs.YtjnpkdpljmkpiaaGreatDoor
