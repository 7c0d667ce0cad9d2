/- The law AtomsValues, whatever its arguments: the walk. -/
import Derived.Test.YtjnpkdpljmkpiaaGreatDoorJ34
import Derived.Test.YtjnpkdpljmkpiaaGreatDoorJ36
namespace Go.Proofs.YtjnpkdpljmkpiaaGreatDoor
open Go.RowKit Go.Shelf Tx

set_option maxRecDepth 100000 in
set_option maxHeartbeats 1000000 in
theorem atomsValues_any (e : List Nd) (v : Value) (l : List Bool) (lv : Value) (w : World) (G : Gl w) (hv : IsE w v e) (hle : e.length ≤ maxLen) (hs : ∀ y ∈ e, y.s.size ≤ 281474976710656) (hb : SlBools w lv l) (hll : l.length ≤ maxLen) :
    Calls Tryz.prog 4 #[v, lv] w fun r w' => r = .returned (.bool true) ∧ Below w.heap.size w w' := by
  obtain ⟨a, c, rfl, hc, -⟩ := hv.form
  obtain ⟨la, lc, rfl, -⟩ := hb.form
  unfold maxLen at hle hll
  by_cases hsmall : e.length ≤ 200 ∧ l.length ≤ 40
  · have h1 := pValue_any e (.slice a e.length c) l (.slice la l.length lc) w (by omega) hs (by omega) hv hb G
    have h2 := fun W (hW : Below w.heap.size w W) => rVal21_any e (.slice a e.length c) l (.slice la l.length lc) W (by omega) (by omega) (Sl.below hv hW) (hb.below hW)
    have hlive := fun W (hW : Below w.heap.size w W) => live_any W (G.below hW)
    obtain ⟨hA, hB⟩ := hsmall
    revert h1 h2
    generalize Ux.valA e l = va
    generalize hn : e.length = n at *
    generalize hm : l.length = m at *
    intro h1 h2
    obtain ⟨va1, va2⟩ := va
    have HH := Lib.hid h2
    have HLV := Lib.hid hlive
    clear hn hm hv hs hb G h2 hlive
    go_enter Tryz.func4, Tryz.ntmps4
    go_wp2_with fail
    refine h1.mono ?_
    rintro r w1 ⟨rfl, hb1⟩
    clear h1
    go_wp2_with fail
    refine (HH.out w1 hb1).mono ?_
    rintro r w2 ⟨rfl, hb2⟩
    have B2 := below_next hb1 hb2
    clear hb1 hb2
    cases va1
    all_goals
      go_wp2_with fail
      refine (HLV.out w2 B2).mono ?_
      rintro r w3 ⟨rfl, hb3⟩
      go_wp2_with fail
      go_ret
      exact ⟨rfl, below_next B2 hb3⟩
  · have hlive := live_any w G
    generalize hn : e.length = n at *
    generalize hm : l.length = m at *
    clear hn hm hv hs hb G
    go_enter Tryz.func4, Tryz.ntmps4
    by_cases h200 : n ≤ 200
    · have h40 : 40 < m := by omega
      go_wp2_with fail
      refine hlive.mono ?_
      rintro r w3 ⟨rfl, hb3⟩
      go_wp2_with fail
      go_ret
      exact ⟨rfl, hb3⟩
    · have h200' : 200 < n := by omega
      clear h200
      go_wp2_with fail
      refine hlive.mono ?_
      rintro r w3 ⟨rfl, hb3⟩
      go_wp2_with fail
      go_ret
      exact ⟨rfl, hb3⟩
end Go.Proofs.YtjnpkdpljmkpiaaGreatDoor
