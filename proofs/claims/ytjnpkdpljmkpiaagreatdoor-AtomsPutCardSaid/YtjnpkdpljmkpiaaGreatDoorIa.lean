/- The law AtomsSplit, whatever its argument: the walk. -/
import Derived.Test.YtjnpkdpljmkpiaaGreatDoorJ34
import Derived.Test.YtjnpkdpljmkpiaaGreatDoorJ35
namespace Go.Proofs.YtjnpkdpljmkpiaaGreatDoor
open Go.RowKit Go.Shelf Tx

theorem splitT_outs (M : Nat) (l : List (List Nd)) : (∀ e ∈ l, (treeL e).size ≤ M) → ∀ f ∈ (splitT l).1, f.size ≤ M := by
  induction l using snoc_ind with
  | h0 => intro _ f hf; simp [splitT] at hf
  | h1 l e ih =>
    intro h f hf
    rw [splitT_snoc] at hf
    rcases List.mem_append.1 hf with hf | hf
    · exact ih (fun e he => h e (by simp [he])) f hf
    · rw [List.mem_singleton.1 hf]
      exact Nat.le_trans (Ux.cut_size _ _) (h e (by simp))
theorem any_may {l : List (List Nd)} (h : l.any (fun e => !mayB e) = false) : ∀ e ∈ l, mayB e = true := fun e he => by
  have := List.any_eq_false.1 h e he; simpa using this
theorem few_parts {l : List (List Nd)} (h : fewB l = true) : l.length ≤ 30 ∧ ∀ e ∈ l, e.length ≤ 200 := by
  unfold fewB at h
  simp only [Bool.and_eq_true, decide_eq_true_eq, List.all_eq_true] at h
  exact h
/-- How many atoms, and how long what Split answers. -/
theorem splitR_few {l : List (List Nd)} (hl : l.length ≤ 30) (hM : ∀ e ∈ l, e.length ≤ 200) : ((splitR l).1.length ≤ 30 ∧ ∀ e ∈ (splitR l).1, e.length ≤ 200) ∧ (splitR l).2.1.length ≤ 30 ∧ ∀ e ∈ (splitR l).2.1, e.length ≤ 200 := by
  unfold splitR
  split
  · exact ⟨⟨by simp, fun e he => by simp at he⟩, by simp, fun e he => by simp at he⟩
  · rename_i h1
    have hm := any_may (Bool.not_eq_true _ ▸ h1)
    have hs : ∀ e ∈ l, (treeL e).size ≤ 200 := fun e he => by rw [may_size (hm e he)]; exact hM e he
    split
    · exact ⟨⟨by simp, fun e he => by simp at he⟩, by simp, fun e he => by simp at he⟩
    · rename_i h2
      refine ⟨⟨by simp only; omega, (splitT_few 200 l hs).2⟩, by simp only [List.length_map, splitT_len]; exact hl, fun e he => ?_⟩
      obtain ⟨f, hf, rfl⟩ := List.mem_map.1 he
      rw [Fo.flat_len]; exact splitT_outs 200 l hs f hf
theorem sg_of_rwe {base : Nat} {w : World} {v : Value} {L : List (List Nd)} (h : RwE base w v L) : Sg 1 IsL w v L :=
  RwE.sg (q := fun x => x) (M := L) (by simpa using h) (fun u _ q => ⟨u, rfl, q.isE⟩)

set_option maxRecDepth 100000 in
set_option maxHeartbeats 1000000 in
theorem atomsSplit_any (l : List (List Nd)) (v : Value) (w : World) (G : Gl w) (hv : Sg 1 IsL w v l) (hlm : l.length ≤ maxLen) (hM : ∀ e ∈ l, e.length ≤ maxLen) (_hs : ∀ e ∈ l, ∀ y ∈ e, y.s.size ≤ 281474976710656) :
    Calls Tryz.prog 3 #[v] w fun r w' => r = .returned (.bool true) ∧ Below w.heap.size w w' := by
  have hfew := Few_any l v w hlm hM hv
  have hlive := fun W (hW : Below w.heap.size w W) => live_any W (G.below hW)
  obtain ⟨q, hq⟩ : ∃ q, q = fewB l := ⟨_, rfl⟩
  rw [← hq] at hfew
  have HV := Lib.hid hv
  have HLV := Lib.hid hlive
  have HG := Lib.hid G
  obtain ⟨a, c, rfl, hc, -⟩ := hv.form keepsL
  obtain ⟨n, hn⟩ : ∃ n, n = l.length := ⟨_, rfl⟩
  rw [← hn] at hfew HV ⊢
  have HQ := Lib.hid hq
  clear hv hlive G hq hn hlm hM hc
  cases q
  · go_enter Tryz.func3, Tryz.ntmps3
    go_wp2_with fail
    refine hfew.mono ?_
    rintro r w1 ⟨rfl, rfl⟩
    clear hfew
    go_wp2_with fail
    refine (HLV.out _ (Below.refl _ _)).mono ?_
    rintro r w3 ⟨rfl, hb3⟩
    go_wp2_with fail
    go_ret
    exact ⟨rfl, hb3⟩
  · obtain ⟨hl, hM⟩ := few_parts HQ.out.symm
    have h1 := Split_any l (.slice a n c) w (by omega) (fun e he => by have := hM e he; omega) HV.out HG.out
    have h2 := fun W (hW : Below w.heap.size w W) => R.Split_any l (.slice a n c) W (by omega) (fun e he => by have := hM e he; omega) (HV.out.below keepsL hW)
    have HB := Lib.hid (splitR_few hl hM)
    have HH := Lib.hid h2
    unfold SplitPost at h1 HH
    revert HB h1 HH
    generalize splitR l = R
    obtain ⟨R1, R2, R3⟩ := R
    intro h1 HB HH
    clear hl hM HQ HV h2 HG
    go_enter Tryz.func3, Tryz.ntmps3
    go_wp2_with fail
    refine hfew.mono ?_
    rintro r w0 ⟨rfl, rfl⟩
    clear hfew
    go_wp2_with fail
    refine h1.mono ?_
    rintro r w1 ⟨u1, v1, rfl, hu1, hv1, hb1⟩
    clear h1
    go_wp2_with fail
    refine (HH.out _ hb1).mono ?_
    rintro r w2 ⟨u2, v2, rfl, hu2, hv2, hb2⟩
    have B2 := below_next hb1 hb2
    have e1 := Exprs_any R1 R1 u1 u2 w2 (by have := HB.out.1.1; omega) (by have := HB.out.1.1; omega) (fun e he => by have := HB.out.1.2 e he; omega) (fun e he => by have := HB.out.1.2 e he; omega) ((sg_of_rwe hu1).below keepsL hb2) (sg_of_rwe hu2)
    have e2 := fun k => Exprs_any R2 R2 v1 v2 (w2.drewN k) (by have := HB.out.2.1; omega) (by have := HB.out.2.1; omega) (fun e he => by have := HB.out.2.2 e he; omega) (fun e he => by have := HB.out.2.2 e he; omega) ((sg_of_rwe hv1).below keepsL (below_drawn hb2 k)) ((sg_of_rwe hv2).below keepsL (below_drawn (Below.refl _ _) k))
    rw [decide_eq_true rfl] at e1
    simp only [decide_true] at e2
    have HE2 := Lib.hid e2
    clear hu1 hv1 hu2 hv2 hb1 hb2 e2 HH
    go_wp2_with fail
    refine e1.mono ?_
    rintro r w4 ⟨rfl, k, rfl⟩
    clear e1
    go_wp2_with fail
    refine (HE2.out k).mono ?_
    rintro r w5 ⟨rfl, j, hw5⟩
    have B5 : Below w0.heap.size w0 w5 := by rw [hw5]; exact below_drawn (below_drawn B2 k) j
    clear hw5
    go_wp2_with fail
    refine (HLV.out _ B5).mono ?_
    rintro r w6 ⟨rfl, hb6⟩
    go_wp2_with fail
    go_ret
    exact ⟨rfl, below_next B5 hb6⟩
end Go.Proofs.YtjnpkdpljmkpiaaGreatDoor
