/- The reference: calls put together; expressions under any operator: the walk. Rows of numbers and truths as lines of a text: the plain mathematics. Expressions over atoms: the plain mathematics. The reference: expressions in the places of streams: the walk. -/
import Derived.Test.YtjnpkdpljmkpiaaGreatDoorJ1
import Derived.Test.YtjnpkdpljmkpiaaGreatDoorJ13
namespace Go.Proofs.YtjnpkdpljmkpiaaGreatDoor
open Go.RowKit Go.Shelf Tx
set_option maxRecDepth 100000 in
set_option maxHeartbeats 8000000 in
theorem rjoin_call (n : Int) (s : ByteArray) (Fs : List Fo) (v : Value) (w : World) (hv : Sg 1 IsF w v Fs) (h1 : ∀ F ∈ Fs, F.count = 1) (hz : (cat Fs).size + Fs.length ≤ 500000) :
    Calls Tryz.prog 93 #[.int .i64 27, .int .i64 n, .string s, v] w fun r w' => ∃ v', r = .returned v' ∧ OwnE w.heap.size w' v' ((joinF 27 n s Fs).flat 0) ∧ Below w.heap.size w w' := by
  obtain ⟨a, c, rfl, hc, hx⟩ := hv.form keepsF
  obtain ⟨m, hm⟩ : ∃ m, m = Fs.length := ⟨_, rfl⟩
  have hmb : m ≤ 500000 := by omega
  rw [← hm] at hc ⊢
  have HJ : Hid (joinF 27 n s Fs = .tr 27 n s (chain .no Fs) .no) := rfl
  have e28 : ((27 : Int) == 28) = false := rfl
  have e27 : ((27 : Int) == 27) = true := rfl
  have e27' : ((27 : Int) != 27) = false := rfl
  have HM := Lib.hid hm
  have HX := Lib.hid hx
  have H1 := Lib.hid h1
  have HZ := Lib.hid hz
  obtain ⟨nb, hnb⟩ : ∃ nb, nb = w.heap.size := ⟨_, rfl⟩
  have HNB := Lib.hid hnb
  clear hm hx h1 hz hv
  go_enter Tryz.func93, Tryz.ntmps93
  go_wp2_with fail
  refine (leaf_any 27 n s w).mono ?_
  rintro r w1 ⟨rfl, hb1⟩
  have nbw := hb1.alloc hb1.size (.cells #[.int .i64 27, .int .i64 (-1), .int .i64 (-1), .int .i64 (-1), .int .i64 n, .string s] 42)
  have kb := Blk.new w1 #[.int .i64 27, .int .i64 (-1), .int .i64 (-1), .int .i64 (-1), .int .i64 n, .string s] 42
  have hxb : nb ≤ w1.heap.size := by rw [hnb]; exact hb1.size
  have KB := Lib.hid kb
  have NBW := Lib.hid nbw
  clear hb1 kb nbw
  go_wp2_with fail
  generalize hW1 : w1.alloc (.cells #[.int .i64 27, .int .i64 (-1), .int .i64 (-1), .int .i64 (-1), .int .i64 n, .string s] 42) = W1 at *
  have kb := KB.out
  have nbw := NBW.out
  have hltb := kb.lt
  generalize w1.heap.size = xb at *
  clear hW1 KB NBW
  refine (rKids_any ⟨27, -1, -1, -1, n, s⟩ W1).mono ?_
  rintro r w2 ⟨kv, rfl, hkr, hb2⟩
  obtain ⟨ka, kc, hkv, -⟩ := hkr.form
  obtain ⟨kl, hkl⟩ : ∃ q, q = (kids ⟨27, -1, -1, -1, n, s⟩).length := ⟨_, rfl⟩
  rw [← hkl] at hkv
  subst hkv
  have kb2 := kb.below hb2
  have B2 := nbw.trans (hb2.mono (by rw [← hnb]; omega))
  have hlt2 := kb2.lt
  have KB2 := Lib.hid kb2
  clear hkr hkl kb nbw hb2 hltb hnb
  go_wp2_with fail
  go_loopw [11, 12, 13, 14] (fun ov tv la i wr => ∃ (t : Nat) (l : List Int) (p : Int), i = .int .i64 t ∧ t ≤ m ∧ la = .int .i64 p ∧ ((t = 0 ∧ p = -1) ∨ (0 < t ∧ p = ((chain .no (Fs.take t)).size : Int) - 1)) ∧ OwnE nb wr ov ((chain .no (Fs.take t)).flat 0) ∧ l.length = t ∧ OwnI nb wr tv l ∧ (∀ g, ov.ownBlock = some g → xb < g ∧ tv.ownBlock ≠ some g) ∧ (∀ g, tv.ownBlock = some g → xb < g) ∧ Below nb w wr ∧
    Blk wr xb #[.int .i64 27, .int .i64 (-1), .int .i64 (-1), .int .i64 (-1), .int .i64 n, .string s] 42) (fun _ _ _ i _ => m - (intOf i).toNat)
  case atStart => exact ⟨0, [], -1, rfl, Nat.zero_le _, rfl, Or.inl ⟨rfl, rfl⟩, OwnE.nil_ _ _, rfl, World.ownsRow_nil _ _ _ _, (fun g hg => by cases hg), (fun g hg => by cases hg), by rw [HNB.out]; exact B2, KB2.out⟩
  case round =>
    obtain ⟨t, l, p, rfl, ht, rfl, hp, hO, hl, hK, hd1, hd2, hB, hb⟩ := hrel
    clear B2
    have hsz0 := chain_take Fs t
    have hz := HZ.out
    obtain ⟨va, vc, hva, hvc⟩ := hO.form
    obtain ⟨ka2, kc2, hka, hkc⟩ := hK.form
    rw [Fo.flat_len] at hva hvc
    rw [hl] at hka hkc
    obtain ⟨ol, hol⟩ : ∃ ol, ol = (chain .no (Fs.take t)).size := ⟨_, rfl⟩
    rw [← hol] at hva hvc hp
    subst hva hka
    have HP := Lib.hid hp
    have HLL := Lib.hid hl
    have holb : ol ≤ 500000 := by omega
    have HOL := Lib.hid hol
    have hnbl := hb.lt
    clear hsz0 hz hol hp hl
    by_cases hlt : t < m
    · obtain ⟨F, hF⟩ : ∃ F, Fs[t]? = some F := ⟨_, List.getElem?_eq_getElem (by have := HM.out; omega)⟩
      have hF1 := H1.out F (List.mem_of_getElem? hF)
      have hFs := one_size hF1
      have hFF : Hid (Fs.take (t + 1) = Fs.take t ++ [F]) := take_at hF
      have hszF : ol + F.size ≤ 500000 := by
        have h1 := chain_take Fs (t + 1)
        rw [hFF.out, chain_snoc] at h1
        simp only [Fo.size, Fo.size_app] at h1
        have := HZ.out; have := HOL.out; omega
      obtain ⟨b, o, cs, rfl, ⟨u, rfl, hu⟩, hcell⟩ := HX.out w (Below.refl _ _) t F hF
      have cu0 := hcell 0 u rfl
      simp only [Nat.mul_one, Nat.add_zero] at cu0
      have cu : wr.cell? ⟨b, o + t, none⟩ = some u := (hB.cell (by rw [HNB.out]; exact World.block_lt_of_cell? w _ cu0)).trans cu0
      obtain ⟨pa, pc, rfl, hpc, hpx⟩ := hu.form
      rw [Fo.flat_len] at cu hpc
      obtain ⟨fl, hfl⟩ : ∃ fl, fl = F.size := ⟨_, rfl⟩
      have hbh := rbehind_any (F.flat 0) (by rw [Fo.flat_len]; omega) (fun x hx => small_mono (small_flat F 0 x hx) (by omega)) pa pc nb w (by rw [HNB.out]; exact hpx) ((chain .no (Fs.take t)).flat 0) (.slice va ol vc) wr hB (by omega) hO (by rw [Fo.flat_len, ← HOL.out]; omega)
      rw [Fo.flat_len, ← hfl] at hbh
      rw [← hfl] at cu hpc hszF hFs
      have HBH := Lib.hid hbh
      have HK := Lib.hid hK
      have HD1 := Lib.hid hd1
      have HD2 := Lib.hid hd2
      have HBB := Lib.hid hb
      have HF1 := Lib.hid hF1
      have HFL := Lib.hid hfl
      have hfl0 : ((fl : Int) == 0) = false := by rw [beq_eq_false_iff_ne]; omega
      have htm : (t : Int) < (m : Int) := by omega
      have ht0 : (0 : Int) ≤ (t : Int) := by omega
      clear hF hcell cu0 hpx hu hbh hK hd1 hd2 hb hF1 hfl hO
      go_wp2_with fail
      refine HBH.out.mono ?_
      rintro r w3 ⟨v3, rfl, hO3, hG3, hB3⟩
      rw [behind_flat] at hO3
      have hK3 := OwnI.gr HK.out hG3 (fun g hg => (HD1.out g hg).2)
      have hb3 := hG3.blk HBB.out (fun h => by have := (HD1.out xb h).1; omega)
      have hd3 : ∀ g, v3.ownBlock = some g → xb < g ∧ (Value.slice ka2 t kc2).ownBlock ≠ some g := fun g hg => by
        rcases hG3.own g hg with h | h
        · exact HD1.out g h
        · exact ⟨by omega, fun e => by have := (HK.out.low g e).2; omega⟩
      obtain ⟨va3, vc3, hva3, -⟩ := hO3.form
      have hol3 : (((chain .no (Fs.take t)).app F).flat 0).length = ol + fl := by rw [Fo.flat_len, Fo.size_app, HOL.out, HFL.out]
      rw [hol3] at hva3
      subst hva3
      have hK4 : w3.ownsRow nb 3 1 (.slice ka2 t kc2) t (l.map vI) := by
        have := hK3; unfold OwnI at this
        rw [HLL.out] at this; exact this
      have HO3 := Lib.hid hO3
      have hxb3 := hb3.lt
      have HB3 := Lib.hid hb3
      have HD3 := Lib.hid hd3
      have hsz3 : nb ≤ w3.heap.size := by have := hG3.size; omega
      have hfsum : (1 : Int) ≤ (ol : Int) + (fl : Int) := by omega
      have hkb3 : t ≤ 500000 := by omega
      have HKL := Lib.hid (fun g (hg : (Value.slice ka2 t kc2).ownBlock = some g) => HD2.out g hg)
      clear hO3 hb3 hd3 hol3 hK3 hG3 cu hB
      go_wp2_with (at_builtin; refine wpList_app rowI rfl _ _ rfl nb _ _ _ rfl (hK4.alloc _) ⟨w3.heap.size, 0, none⟩ 1 [.int .i64 ((ol : Int) + (fl : Int) - 1)] rfl rfl ?c1 ?c2 ?c3 ?c4 (w3.heap.size + 1) ?c5 ?_)
      case c1 => exact World.news_of_block (heap_alloc_new w3 _)
      case c2 => simp [Value.oneCell']
      case c3 => omega
      case c4 => simp; omega
      case c5 => simp
      intro g cap w4 hown hgrow hat hlt4 hcap
      have hgr : Gr w3 (.slice ka2 t kc2) w4 (.slice (some ⟨g, 0, none⟩) (t + 1) cap) := gr_append hgrow hat
      have HO4 := Lib.hid (OwnE.gr HO3.out hgr (fun g' hg' e => (HD3.out g' e).2 hg'))
      have HK4 : Hid (OwnI nb w4 (.slice (some ⟨g, 0, none⟩) (t + 1) cap) (l ++ [(ol : Int) + (fl : Int) - 1])) := by
        show OwnI _ _ _ _
        unfold OwnI
        rw [List.length_append, HLL.out, List.map_append, List.map_cons, List.map_nil]
        exact hown
      have hgnew : xb < g := by
        rcases hat with h | h
        · exact HKL.out g h
        · omega
      have HDD : Hid (∀ g', (Value.slice va3 (ol + fl) vc3).ownBlock = some g' → xb < g' ∧ (Value.slice (some ⟨g, 0, none⟩) (t + 1) cap).ownBlock ≠ some g') := fun g' hg' => by
        refine ⟨(HD3.out g' hg').1, fun e => ?_⟩
        cases e
        rcases hat with h | h
        · exact (HD3.out g hg').2 h
        · have := (HO3.out.low g hg').2; omega
      have HB4 := Lib.hid (hgr.blk HB3.out (fun h => by have := HKL.out xb h; omega))
      have hB4 : Below nb w w4 := Gr.below hB3 hgr hsz3 (fun g' hg' => by have := HKL.out g' hg'; omega)
      clear hown hgrow hat hgr hK4 hB3
      have hsz4 : nb ≤ w4.heap.size := by omega
      go_wp2_with fail
      refine (leaf_any 28 0 ⟨#[]⟩ w4).mono ?_
      rintro r w5 ⟨rfl, hb5⟩
      have HO5 := Lib.hid (HO4.out.below hb5)
      have HK5 := Lib.hid (HK4.out.below hb5)
      have HB5 := Lib.hid (HB4.out.below hb5)
      have HBL5 : Hid (Below nb w w5) := hB4.trans (hb5.mono (by omega))
      have hsz5 : w4.heap.size ≤ w5.heap.size := hb5.size
      have hO5 : w5.ownsRow nb 42 6 (.slice va3 (ol + fl) vc3) (ol + fl) ((((chain .no (Fs.take t)).app F).flat 0).flatMap ndL) := by
        have := HO5.out; unfold OwnE at this; rw [Fo.flat_len, Fo.size_app, ← HOL.out, ← HFL.out] at this; exact this
      have KEY : Hid (∀ A : Array Value, w5.heap.size ≤ (w5.alloc (.cells A 42)).heap.size ∧ (w5.alloc (.cells A 42)).heap.size = w5.heap.size + 1 ∧ Below nb w (w5.alloc (.cells A 42)) ∧
          OwnI nb (w5.alloc (.cells A 42)) (.slice (some ⟨g, 0, none⟩) (t + 1) cap) (l ++ [(ol : Int) + (fl : Int) - 1]) ∧ Blk (w5.alloc (.cells A 42)) xb #[.int .i64 27, .int .i64 (-1), .int .i64 (-1), .int .i64 (-1), .int .i64 n, .string s] 42) := fun A => by
        have nn := (Below.refl w5.heap.size w5).alloc (Nat.le_refl _) (.cells A 42)
        exact ⟨nn.size, by simp, HBL5.out.trans (nn.mono (by omega)), HK5.out.below nn, HB5.out.below nn⟩
      have HNF : Hid (((chain .no (Fs.take t)).app F).flat 0 ++ [(⟨28, (ol : Int) + (fl : Int) - 1, p, -1, 0, ByteArray.empty⟩ : Nd)] = (chain .no (Fs.take (t + 1))).flat 0) := by
        show _ = _
        rw [hFF.out, chain_snoc]
        simp only [Fo.flat]
        congr 1
        have e3 : ((0 + ol + F.size - 1 : Nat) : Int) = (ol : Int) + (fl : Int) - 1 := by have := HFL.out; omega
        rcases HP.out with ⟨h0, hp⟩ | ⟨h0, hp⟩
        · subst h0
          have e2 : ((chain .no (Fs.take 0)).app F).ends 0 = [(ol : Int) + (fl : Int) - 1] := by
            have e0 : ol = 0 := by rw [HOL.out]; rfl
            rw [Fo.ends_app, ends_one HF1.out, ← HOL.out, e3, List.take_zero]; rfl
          rw [e2, hp]; rfl
        · have h2 : Fs.take t ≠ [] := fun e => by have := congrArg List.length e; rw [List.length_take, List.length_nil] at this; have := HM.out; omega
          have e2 : ((chain .no (Fs.take t)).app F).ends 0 = [(ol : Int) - 1, (ol : Int) + (fl : Int) - 1] := by
            rw [Fo.ends_app, chain_ends h2, ends_one HF1.out, ← HOL.out, e3]; rfl
          rw [e2, hp]; rfl
      have HPN : Hid ((ol : Int) + (fl : Int) = ((chain .no (Fs.take (t + 1))).size : Int) - 1) := by
        show _ = _
        rw [hFF.out, chain_snoc]; simp only [Fo.size, Fo.size_app]; have := HOL.out; have := HFL.out; omega
      have hxb5 : xb < w5.heap.size := HB5.out.lt
      clear hb5 hB4
      go_wp2_with (at_builtin; refine wpList_app rowNd rfl (.tmp 70) (.tmp 72) rfl nb _ _ _ rfl ((hO5.alloc _).alloc _) ⟨w5.heap.size + 1, 0, none⟩ 1 [.int .i64 28, .int .i64 ((ol : Int) + (fl : Int) - 1), .int .i64 p, .int .i64 (-1), .int .i64 0, .string ⟨#[]⟩] rfl rfl ?c1 ?c2 ?c3 ?c4 (w5.heap.size + 2) ?c5 ?_)
      case c1 => exact World.news_of_block (by have := heap_alloc_new (w5.alloc (.cells #[.int .i64 28, .int .i64 ((ol : Int) + (fl : Int) - 1), .int .i64 p, .int .i64 (-1), .int .i64 0, .string ⟨#[]⟩] 42)) (.cells #[.int .i64 28, .int .i64 ((ol : Int) + (fl : Int) - 1), .int .i64 p, .int .i64 (-1), .int .i64 0, .string ⟨#[]⟩] 42); simpa using this)
      case c2 => simp [Value.oneCell']
      case c3 => omega
      case c4 => simp; omega
      case c5 => simp
      intro g6 cap6 w6 hown6 hgrow6 hat6 hlt6 hcap6
      obtain ⟨hk0, hk1, hk2, hk3, hk4⟩ := KEY.out #[.int .i64 28, .int .i64 ((ol : Int) + (fl : Int) - 1), .int .i64 p, .int .i64 (-1), .int .i64 0, .string ⟨#[]⟩]
      have hgr6 : Gr (w5.alloc (.cells #[.int .i64 28, .int .i64 ((ol : Int) + (fl : Int) - 1), .int .i64 p, .int .i64 (-1), .int .i64 0, .string ⟨#[]⟩] 42)) (.slice va3 (ol + fl) vc3) w6 (.slice (some ⟨g6, 0, none⟩) (ol + fl + 1) cap6) := gr_append hgrow6 (by rw [hk1]; exact hat6)
      have HO6 : Hid (OwnE nb w6 (.slice (some ⟨g6, 0, none⟩) (ol + fl + 1) cap6) ((chain .no (Fs.take (t + 1))).flat 0)) := by
        show OwnE _ _ _ _
        rw [← HNF.out]
        unfold OwnE
        rw [List.length_append, List.flatMap_append, Fo.flat_len, Fo.size_app, ← HOL.out, ← HFL.out]
        exact hown6
      have HK6 := Lib.hid (OwnI.gr hk3 hgr6 (fun g' hg' => (HDD.out g' hg').2))
      have HB6 := Lib.hid (hgr6.blk hk4 (fun h => by have := (HDD.out xb h).1; omega))
      have HBL6 : Hid (Below nb w w6) := Gr.below hk2 hgr6 (by omega) (fun g' hg' => by have := (HDD.out g' hg').1; omega)
      have HDD6 : Hid (∀ g', (Value.slice (some ⟨g6, 0, none⟩) (ol + fl + 1) cap6).ownBlock = some g' → xb < g' ∧ (Value.slice (some ⟨g, 0, none⟩) (t + 1) cap).ownBlock ≠ some g') := fun g' hg' => by
        have e1 : g6 = g' := Option.some.inj hg'
        subst e1
        rcases hat6 with h | h
        · exact HDD.out g6 h
        · exact ⟨by omega, fun e => by have := (HK5.out.low g6 e).2; omega⟩
      have hHK : Hid (l.length + 1 = t + 1) := by show _ = _; rw [HLL.out]
      clear hown6 hgrow6 hat6 hgr6 hO5 hk0 hk1 hk2 hk3 hk4 KEY
      go_wp2_with fail
      go_roundw
      case rel => exact ⟨t + 1, l ++ [(ol : Int) + (fl : Int) - 1], (ol : Int) + (fl : Int), by go_num, by omega, rfl, Or.inr ⟨by omega, HPN.out⟩, HO6.out, by rw [List.length_append]; exact hHK.out, HK6.out, HDD6.out, (fun g' hg' => by cases hg'; exact hgnew), HBL6.out, HB6.out⟩
      case measure => simp [intOf]; omega
    · have hte : t = m := by omega
      subst hte
      have hfull : Fs.take t = Fs := List.take_of_length_le (by have := HM.out; omega)
      rw [hfull] at hO
      have HOL2 : Hid (ol = (chain .no Fs).size) := by show _ = _; rw [← hfull]; exact HOL.out
      obtain ⟨z0, z1, z2, z3, z4, z5⟩ := six_cells hb
      obtain ⟨y0, y1, y2, y3, y4, y5⟩ := six_free hb
      have HNF : Hid ((joinF 27 n s Fs).flat 0 = (chain .no Fs).flat 0 ++ [(⟨27, p, -1, -1, n, s⟩ : Nd)]) := by
        show _ = _
        rw [HJ.out, Fo.flat, Fo.flat]
        congr 1
        rcases HP.out with ⟨h0, hp⟩ | ⟨h0, hp⟩
        · have e : Fs = [] := List.eq_nil_of_length_eq_zero (by have := HM.out; omega)
          rw [e, hp]; rfl
        · have h2 : Fs ≠ [] := fun e => by have := HM.out; rw [e] at this; simp at this; omega
          rw [chain_ends h2, hp, HOL2.out]; rfl
      have hO3 : (wr.setCell ⟨xb, 1, none⟩ (.int .i64 p)).ownsRow nb 42 6 (.slice va ol vc) ol (((chain .no Fs).flat 0).flatMap ndL) := by
        have := OwnE.set hO (g := xb) (fun h => by have := (hd1 xb h).1; omega) 1 (.int .i64 p)
        unfold OwnE at this; rw [Fo.flat_len, ← HOL2.out] at this; exact this
      have HD1 := Lib.hid hd1
      have HBL : Hid (Below nb w (wr.setCell ⟨xb, 1, none⟩ (.int .i64 p))) := below_set hB hxb
      have hss : (wr.setCell ⟨xb, 1, none⟩ (.int .i64 p)).heap.size = wr.heap.size := by simp [World.setCell]
      have HSS := Lib.hid hss
      clear hfull hO hd1 hd2 hb hK hss hB
      go_wp2_with (at_builtin; refine wpList_app rowNd rfl (.tmp 78) (.tmp 80) rfl nb _ _ _ rfl (hO3.alloc _) ⟨wr.heap.size, 0, none⟩ 1 [.int .i64 27, .int .i64 p, .int .i64 (-1), .int .i64 (-1), .int .i64 n, .string s] rfl rfl ?c1 ?c2 ?c3 ?c4 (wr.heap.size + 1) ?c5 ?_)
      case c1 => exact World.news_of_block (by have := heap_alloc_new (wr.setCell ⟨xb, 1, none⟩ (.int .i64 p)) (.cells #[.int .i64 27, .int .i64 p, .int .i64 (-1), .int .i64 (-1), .int .i64 n, .string s] 42); rw [HSS.out] at this; exact this)
      case c2 => simp [Value.oneCell']
      case c3 => omega
      case c4 => rw [World.size_alloc, HSS.out]; omega
      case c5 => rw [World.size_alloc, HSS.out]
      intro g cap w4 hown hgrow hat hlt5 hcap
      have hgr : Gr (wr.setCell ⟨xb, 1, none⟩ (.int .i64 p)) (.slice va ol vc) w4 (.slice (some ⟨g, 0, none⟩) (ol + 1) cap) := gr_append hgrow (by rw [HSS.out]; exact hat)
      have hB4 : Below nb w w4 := Gr.below HBL.out hgr (by rw [HSS.out]; omega) (fun g' hg' => by have := (HD1.out g' hg').1; omega)
      have HOW := Lib.hid hown
      clear hown hgrow hat hgr hO3
      go_wp2_with fail
      go_ret
      refine ⟨_, rfl, ?_, by rw [← HNB.out]; exact hB4⟩
      rw [HNF.out, ← HNB.out]
      unfold OwnE
      rw [List.length_append, List.flatMap_append, Fo.flat_len, ← HOL2.out]
      exact HOW.out
theorem rJoin_any (op n : Int) (s : ByteArray) (Fs : List Fo) (v : Value) (w : World) (hv : Sg 1 IsF w v Fs) (h1 : ∀ F ∈ Fs, F.count = 1) (hz : (cat Fs).size + Fs.length ≤ 500000) (h28 : op ≠ 28) (har : op ≠ 27 → (kids (leaf op n s)).length = Fs.length) :
    Calls Tryz.prog 93 #[.int .i64 op, .int .i64 n, .string s, v] w fun r w' => ∃ v', r = .returned v' ∧ OwnE w.heap.size w' v' ((joinF op n s Fs).flat 0) ∧ Below w.heap.size w w' := by
  by_cases h : op = 27
  · subst h; exact rjoin_call n s Fs v w hv h1 hz
  · exact rjoin_plain op n s Fs v w hv h1 (by omega) h28 h (har h)
end Go.Proofs.YtjnpkdpljmkpiaaGreatDoor
namespace Go.Proofs.YtjnpkdpljmkpiaaGreatDoor.Fx
abbrev Bs := List UInt8
def lineOf (s : Bs) : Bs := s.takeWhile (· != 10)
def restOf (s : Bs) : Bs := (s.dropWhile (· != 10)).drop 1
def linesF : Nat → Bs → List Bs
  | 0, _ => []
  | f + 1, s => if s.isEmpty then [] else lineOf s :: linesF f (restOf s)
def lines (s : Bs) : List Bs := linesF (s.length + 1) s
def wordOf (s : Bs) : Bs := s.takeWhile (· != 32)
def behind (s : Bs) : Bs := s.dropWhile (· != 32)
def skip (s : Bs) : Bs := s.dropWhile (· == 32)
def wordsF : Nat → Bs → List Bs
  | 0, _ => []
  | f + 1, s => if (skip s).isEmpty then [] else wordOf (skip s) :: wordsF f (behind (skip s))
def words (s : Bs) : List Bs := wordsF (s.length + 1) s
def fits (n : Int) : Bool := decide (-2147483648 ≤ n) && decide (n ≤ 2147483647)
def isD (c : UInt8) : Bool := 48 ≤ c && c ≤ 57
def val (l : Bs) : Nat := l.foldl (fun n c => 10 * n + (c.toNat - 48)) 0
def size (d : Bs) : Option Nat := if d.isEmpty || decide (10 < d.length) || (d.headD 0 == 48 && decide (1 < d.length)) || !d.all isD then none else some (val d)
def tru : Bs := [116, 114, 117, 101]
def fal : Bs := [102, 97, 108, 115, 101]
def dg (n : Nat) : UInt8 := UInt8.ofNat (48 + n)
def decF : Nat → Nat → Bs
  | 0, _ => []
  | f + 1, n => if n < 10 then [dg n] else decF f (n / 10) ++ [dg (n % 10)]
def dec (n : Nat) : Bs := decF (n + 1) n
def itoa (n : Int) : Bs := if n < 0 then 45 :: dec n.natAbs else dec n.toNat
theorem decF_fuel : ∀ (f g n : Nat), n < f → n < g → decF f n = decF g n
  | 0, _, _, h, _ => by omega
  | _, 0, _, _, h => by omega
  | f + 1, g + 1, n, hf, hg => by
    simp only [decF]
    split
    · rfl
    · rw [decF_fuel f g (n / 10) (by omega) (by omega)]
theorem dec_small {n : Nat} (h : n < 10) : dec n = [dg n] := by unfold dec; simp only [decF]; rw [if_pos h]
theorem dec_big {n : Nat} (h : ¬ n < 10) : dec n = dec (n / 10) ++ [dg (n % 10)] := by
  show decF (n + 1) n = _
  simp only [decF]
  rw [if_neg h, show decF n (n / 10) = dec (n / 10) from decF_fuel _ _ _ (by omega) (by omega)]
theorem val_snoc (l : Bs) (c : UInt8) : val (l ++ [c]) = 10 * val l + (c.toNat - 48) := by simp [val, List.foldl_append]
theorem byte_of {n : Nat} (h : n < 10) : (dg n).toNat = 48 + n := by
  unfold dg; rw [UInt8.toNat_ofNat']; exact Nat.mod_eq_of_lt (by omega)
theorem isD_of {n : Nat} (h : n < 10) : isD (dg n) = true := by
  simp only [isD, Bool.and_eq_true, decide_eq_true_eq, UInt8.le_iff_toNat_le, byte_of h]
  have h1 : (48 : UInt8).toNat = 48 := rfl
  have h2 : (57 : UInt8).toNat = 57 := rfl
  omega
theorem isD_nat {c : UInt8} (h : isD c = true) : 48 ≤ c.toNat ∧ c.toNat ≤ 57 := by
  simp only [isD, Bool.and_eq_true, decide_eq_true_eq, UInt8.le_iff_toNat_le] at h
  exact h
theorem dec_is (n : Nat) : (dec n).all isD = true ∧ val (dec n) = n ∧ dec n ≠ [] ∧ ((dec n).headD 0 = 48 → n = 0) ∧ ∀ k, n < 10 ^ (k + 1) → (dec n).length ≤ k + 1 := by
  induction n using Nat.strongRecOn with
  | ind n ih =>
    by_cases h : n < 10
    · rw [dec_small h]
      refine ⟨by simp [isD_of h], by simp [val, byte_of h], by simp, fun h0 => ?_, fun k _ => by simp⟩
      have := congrArg UInt8.toNat h0
      simp only [List.headD_cons, byte_of h] at this
      have h2 : (48 : UInt8).toNat = 48 := rfl
      omega
    · obtain ⟨i1, i2, i3, i4, i5⟩ := ih (n / 10) (by omega)
      rw [dec_big h]
      have hm : n % 10 < 10 := Nat.mod_lt _ (by omega)
      refine ⟨by rw [List.all_append, i1]; simp [isD_of hm], by rw [val_snoc, i2, byte_of hm]; omega, by simp, fun h0 => ?_, fun k hk => ?_⟩
      · have : (dec (n / 10)).headD 0 = 48 := by
          cases hq : dec (n / 10) with
          | nil => exact absurd hq i3
          | cons c r => rw [hq] at h0; simpa using h0
        have := i4 this; omega
      · rw [List.length_append, List.length_singleton]
        cases k with
        | zero => simp at hk; omega
        | succ k =>
          have := i5 k (by rw [Nat.pow_succ] at hk; omega)
          omega
def may (t n : Int) : Bool := (decide (t = 2) && fits n) || (decide (t = 1) && (decide (n = 0) || decide (n = 1)))
def text (t n : Int) : Bs := if t = 1 then (if n = 1 then tru else fal) else itoa n
end Go.Proofs.YtjnpkdpljmkpiaaGreatDoor.Fx
namespace Go.Proofs.YtjnpkdpljmkpiaaGreatDoor
namespace Ux
open Tx
def atomName (k : Nat) : ByteArray := ⟨(63 :: Fx.dec k).toArray⟩
theorem atomName_inj {j k : Nat} (h : atomName j = atomName k) : j = k := by
  have h1 : (63 :: Fx.dec j) = 63 :: Fx.dec k := by
    have := congrArg (fun b : ByteArray => b.data.toList) h
    simpa [atomName] using this
  have h2 : Fx.dec j = Fx.dec k := by simpa using h1
  rw [← (Fx.dec_is j).2.1, h2, (Fx.dec_is k).2.1]
def isLogic (op : Int) : Bool := op == 2 || op == 4 || (decide (6 ≤ op) && decide (op ≤ 9)) || op == 26
def cutF : Fo → List (List Nd) → Fo × List (List Nd)
  | .no, A => (.no, A)
  | .tr op n s ks r, A =>
    if isLogic op then
      let p := cutF ks A
      let q := cutF r p.2
      (.tr op n ByteArray.empty p.1 q.1, q.2)
    else
      let x := (Fo.tr op n s ks .no).flat 0
      let q := cutF r (if x ∈ A then A else A ++ [x])
      (.tr 3 0 (atomName (A.idxOf x)) .no q.1, q.2)
theorem cut_app (a b : Fo) : ∀ A, cutF (a.app b) A = ((cutF a A).1.app (cutF b (cutF a A).2).1, (cutF b (cutF a A).2).2) := by
  induction a with
  | no => intro A; rfl
  | tr op n s ks r _ ih =>
    intro A
    simp only [Fo.app, cutF]
    split
    · simp only [ih, Fo.app]
    · simp only [ih, Fo.app]
theorem cut_count (F : Fo) : ∀ A, (cutF F A).1.count = F.count := by
  induction F with
  | no => intro A; rfl
  | tr op n s ks r _ ih => intro A; simp only [cutF]; split <;> simp [Fo.count, ih]
theorem cut_size (F : Fo) : ∀ A, (cutF F A).1.size ≤ F.size := by
  induction F with
  | no => intro A; simp [cutF]
  | tr op n s ks r ihk ih =>
    intro A; simp only [cutF]; split
    · simp only [Fo.size]; have := ihk A; have := ih (cutF ks A).2; omega
    · simp only [Fo.size]; have := ih (if (Fo.tr op n s ks .no).flat 0 ∈ A then A else A ++ [(Fo.tr op n s ks .no).flat 0]); omega
theorem cut_depth (F : Fo) : ∀ A, (cutF F A).1.depth ≤ F.depth := by
  induction F with
  | no => intro A; simp [cutF]
  | tr op n s ks r ihk ih =>
    intro A; simp only [cutF]; split
    · simp only [Fo.depth]; have := ihk A; have := ih (cutF ks A).2; omega
    · simp only [Fo.depth]; have := ih (if (Fo.tr op n s ks .no).flat 0 ∈ A then A else A ++ [(Fo.tr op n s ks .no).flat 0]); omega
theorem logic_ops {op : Int} (h : isLogic op = true) : op ≠ 27 ∧ op ≠ 28 ∧ op ≠ 3 ∧ op ≠ 1 ∧ op ≠ 25 := by
  unfold isLogic at h; simp at h; omega
theorem plain_logic {op n : Int} {s : ByteArray} (hl : isLogic op = true) (h : plainB op n s = true) : s = ByteArray.empty := by
  obtain ⟨h1, h2, h3, h4, h5⟩ := logic_ops hl
  unfold plainB at h
  simp only [Bool.and_eq_true, beq_iff_eq] at h
  have h6 := h.1.1
  have e1 : (op == 3) = false := by simpa using h3
  have e2 : (op == 27) = false := by simpa using h1
  rw [e1, e2] at h6
  simpa using h6
theorem name_ne (k : Nat) : atomName k ≠ ByteArray.empty := by
  intro h
  have := congrArg ByteArray.size h
  simp [atomName, ByteArray.size] at this
theorem args_not {op : Int} (hl : isLogic op = true) (l : List Int) : argsB op l = l.all (fun p => p != 28) := by
  obtain ⟨h1, h2, h3, h4, h5⟩ := logic_ops hl
  unfold argsB; rw [if_neg h1, if_neg h2]
theorem cut_ops (F : Fo) : ∀ A, F.ops.all (fun p => p != 28) = true → (cutF F A).1.ops.all (fun p => p != 28) = true := by
  induction F with
  | no => intro A _; rfl
  | tr op n s ks r _ ih =>
    intro A h
    simp only [Fo.ops, List.all_cons, Bool.and_eq_true] at h
    simp only [cutF]; split
    · simp only [Fo.ops, List.all_cons, Bool.and_eq_true]; exact ⟨h.1, ih _ h.2⟩
    · simp only [Fo.ops, List.all_cons, Bool.and_eq_true]; exact ⟨rfl, ih _ h.2⟩
theorem cut_wf (F : Fo) : ∀ A, F.wf = true → F.ops.all (fun p => p != 28) = true → (cutF F A).1.wf = true := by
  induction F with
  | no => intro A _ _; rfl
  | tr op n s ks r ihk ih =>
    intro A hw ho
    simp only [Fo.wf, Bool.and_eq_true, decide_eq_true_eq] at hw
    obtain ⟨⟨⟨⟨⟨⟨h1, h2⟩, h3⟩, h4⟩, h5⟩, h6⟩, h7⟩ := hw
    simp only [Fo.ops, List.all_cons, Bool.and_eq_true] at ho
    simp only [cutF]; split
    · rename_i hl
      rw [args_not hl] at h5
      have hs := plain_logic hl h4
      subst hs
      simp only [Fo.wf, Bool.and_eq_true, decide_eq_true_eq, cut_count]
      exact ⟨⟨⟨⟨⟨⟨h1, h2⟩, h3⟩, h4⟩, by rw [args_not hl]; exact cut_ops ks A h5⟩, ihk A h6 h5⟩, ih _ h7 ho.2⟩
    · simp only [Fo.wf, Bool.and_eq_true, decide_eq_true_eq]
      refine ⟨⟨⟨⟨⟨⟨by omega, by omega⟩, rfl⟩, ?_⟩, rfl⟩, trivial⟩, ih _ h7 ho.2⟩
      unfold plainB; simp [name_ne]
theorem cut_more (F : Fo) : ∀ A, ∃ B, (cutF F A).2 = A ++ B := by
  induction F with
  | no => intro A; exact ⟨[], by simp [cutF]⟩
  | tr op n s ks r ihk ih =>
    intro A; simp only [cutF]; split
    · obtain ⟨B, hB⟩ := ihk A
      obtain ⟨C, hC⟩ := ih (cutF ks A).2
      exact ⟨B ++ C, by rw [hC, hB, List.append_assoc]⟩
    · obtain ⟨C, hC⟩ := ih (if (Fo.tr op n s ks .no).flat 0 ∈ A then A else A ++ [(Fo.tr op n s ks .no).flat 0])
      simp only [hC]
      split
      · exact ⟨C, rfl⟩
      · exact ⟨[(Fo.tr op n s ks .no).flat 0] ++ C, by simp⟩
theorem cut_len (F : Fo) : ∀ A, (cutF F A).2.length ≤ A.length + F.size := by
  induction F with
  | no => intro A; simp [cutF, Fo.size]
  | tr op n s ks r ihk ih =>
    intro A; simp only [cutF]; split
    · simp only [Fo.size]; have := ihk A; have := ih (cutF ks A).2; omega
    · simp only [Fo.size]
      have := ih (if (Fo.tr op n s ks .no).flat 0 ∈ A then A else A ++ [(Fo.tr op n s ks .no).flat 0])
      split at this
      · rename_i h; rw [if_pos h]; omega
      · rename_i h; rw [if_neg h]; rw [List.length_append, List.length_singleton] at this; omega
def IsAtom (m d : Nat) (x : List Nd) : Prop := ∃ op n s ks, x = (Fo.tr op n s ks .no).flat 0 ∧ isLogic op = false ∧ op ≠ 28 ∧ (Fo.tr op n s ks .no).wf = true ∧ (Fo.tr op n s ks .no).size ≤ m ∧ (Fo.tr op n s ks .no).depth ≤ d
theorem cut_atoms (m d : Nat) (F : Fo) : ∀ A, F.wf = true → F.ops.all (fun p => p != 28) = true → F.size ≤ m → F.depth ≤ d → (∀ x ∈ A, IsAtom m d x) → A.Nodup → (∀ x ∈ (cutF F A).2, IsAtom m d x) ∧ (cutF F A).2.Nodup := by
  induction F with
  | no => intro A _ _ _ _ h h'; exact ⟨h, h'⟩
  | tr op n s ks r ihk ih =>
    intro A hw ho hm hd h h'
    have hw0 := hw
    simp only [Fo.wf, Bool.and_eq_true, decide_eq_true_eq] at hw
    obtain ⟨⟨⟨⟨⟨⟨h1, h2⟩, h3⟩, h4⟩, h5⟩, h6⟩, h7⟩ := hw
    simp only [Fo.ops, List.all_cons, Bool.and_eq_true, bne_iff_ne] at ho
    simp only [Fo.size] at hm
    simp only [Fo.depth] at hd
    simp only [cutF]; split
    · rename_i hl
      rw [args_not hl] at h5
      obtain ⟨k1, k2⟩ := ihk A h6 h5 (by omega) (by omega) h h'
      exact ih _ h7 ho.2 (by omega) (by omega) k1 k2
    · rename_i hl
      have hat : IsAtom m d ((Fo.tr op n s ks .no).flat 0) := ⟨op, n, s, ks, rfl, by simpa using hl, ho.1, by
        simp only [Fo.wf, Bool.and_eq_true, decide_eq_true_eq]; exact ⟨⟨⟨⟨⟨⟨h1, h2⟩, h3⟩, h4⟩, h5⟩, h6⟩, trivial⟩, by simp only [Fo.size]; omega, by simp only [Fo.depth]; omega⟩
      refine ih _ h7 ho.2 (by omega) (by omega) ?_ ?_
      · split
        · exact h
        · intro x hx
          rcases List.mem_append.1 hx with hx | hx
          · exact h x hx
          · rw [List.mem_singleton.1 hx]; exact hat
      · split
        · exact h'
        · rename_i hx
          rw [List.nodup_append]
          exact ⟨h', by simp, fun a ha b hb e => by rw [List.mem_singleton.1 hb] at e; exact hx (e ▸ ha)⟩
def byName (A : List (List Nd)) (s : ByteArray) : Option Fo := ((List.range A.length).find? fun k => decide (atomName k = s)).map fun k => T (A.getD k []) ((A.getD k []).length - 1)
theorem byName_at {A : List (List Nd)} {k : Nat} (hk : k < A.length) : byName A (atomName k) = some (T (A.getD k []) ((A.getD k []).length - 1)) := by
  unfold byName
  have : (List.range A.length).find? (fun j => decide (atomName j = atomName k)) = some k := by
    rw [List.find?_range_eq_some]
    refine ⟨by simp, by simpa using hk, fun j hj => ?_⟩
    rw [Bool.not_eq_true', decide_eq_false_iff_not]
    intro e; have := atomName_inj e; omega
  rw [this]; rfl
theorem cut_put (F : Fo) : ∀ (A B : List (List Nd)), F.wf = true → F.ops.all (fun p => p != 28) = true → (∃ C, B = (cutF F A).2 ++ C) → putF (byName B) (cutF F A).1 = F := by
  induction F with
  | no => intro A B _ _ _; rfl
  | tr op n s ks r ihk ih =>
    intro A B hw ho hB
    simp only [Fo.wf, Bool.and_eq_true, decide_eq_true_eq] at hw
    obtain ⟨⟨⟨⟨⟨⟨h1, h2⟩, h3⟩, h4⟩, h5⟩, h6⟩, h7⟩ := hw
    simp only [Fo.ops, List.all_cons, Bool.and_eq_true, bne_iff_ne] at ho
    simp only [cutF] at hB ⊢
    split
    · rename_i hl
      rw [if_pos hl] at hB
      have h5' := h5
      rw [args_not hl] at h5'
      obtain ⟨C, hC⟩ := hB
      obtain ⟨D, hD⟩ := cut_more r (cutF ks A).2
      have e1 := ihk A B h6 h5' ⟨D ++ C, by rw [hC]; simp only [hD, List.append_assoc]⟩
      have e2 := ih (cutF ks A).2 B h7 ho.2 ⟨C, hC⟩
      have hop := (logic_ops hl).2.2.1
      simp only [putF, if_neg hop, e1, e2, Fo.app]
      rw [plain_logic hl h4]
    · rename_i hl
      rw [if_neg hl] at hB
      obtain ⟨C, hC⟩ := hB
      generalize hx : (Fo.tr op n s ks .no).flat 0 = x at hC ⊢
      have hwx : (Fo.tr op n s ks .no).wf = true := by simp only [Fo.wf, Bool.and_eq_true, decide_eq_true_eq]; exact ⟨⟨⟨⟨⟨⟨h1, h2⟩, h3⟩, h4⟩, h5⟩, h6⟩, trivial⟩
      obtain ⟨D, hD⟩ := cut_more r (if x ∈ A then A else A ++ [x])
      have hat : B[A.idxOf x]? = some x := by
        rw [hC]; simp only [hD]
        by_cases hm : x ∈ A
        · rw [if_pos hm, List.append_assoc, List.getElem?_append_left (List.idxOf_lt_length_iff.2 hm)]
          rw [List.getElem?_eq_getElem (List.idxOf_lt_length_iff.2 hm), List.getElem_idxOf]
        · rw [if_neg hm, List.idxOf_eq_length hm, List.append_assoc, List.append_assoc, List.getElem?_append_right (Nat.le_refl _)]
          simp
      have hlt := (List.getElem?_eq_some_iff.1 hat).1
      have e2 := ih (if x ∈ A then A else A ++ [x]) B h7 ho.2 ⟨C, hC⟩
      simp only [putF, if_true, byName_at hlt, e2]
      have hg : B.getD (A.idxOf x) [] = x := by rw [List.getD_eq_getElem?_getD, hat]; rfl
      rw [hg, ← hx, Fo.flat_len, T_flat0 hwx rfl]
      rfl
end Ux
end Go.Proofs.YtjnpkdpljmkpiaaGreatDoor
namespace Go.Proofs.YtjnpkdpljmkpiaaGreatDoor
open Go.RowKit Go.Shelf Tx
def placeL (L : List ByteArray) (s : ByteArray) : Option Nat := (List.range L.length).find? fun k => decide (L.getD k ByteArray.empty = s)
def byL (L : List ByteArray) (A : List (List Nd)) (s : ByteArray) : Option Fo := (placeL L s).map fun k => T (A.getD k []) ((A.getD k []).length - 1)
theorem placeL_some {L : List ByteArray} {s : ByteArray} {k : Nat} (hk : L[k]? = some s) (hno : ∀ j, j < k → L[j]? ≠ some s) : placeL L s = some k := by
  unfold placeL
  rw [List.find?_range_eq_some]
  have hl := (List.getElem?_eq_some_iff.1 hk).1
  refine ⟨by rw [List.getD_eq_getElem?_getD, hk]; simp, by simpa using hl, fun j hj => ?_⟩
  rw [Bool.not_eq_true', decide_eq_false_iff_not]
  intro e
  refine hno j hj ?_
  rw [List.getD_eq_getElem?_getD, List.getElem?_eq_getElem (by omega)] at e
  rw [List.getElem?_eq_getElem (by omega)]
  simp at e; rw [e]
theorem placeL_none {L : List ByteArray} {s : ByteArray} (hno : ∀ j, j < L.length → L[j]? ≠ some s) : placeL L s = none := by
  unfold placeL
  rw [List.find?_eq_none]
  intro j hj
  have hl := List.mem_range.1 hj
  rw [Bool.not_eq_true, decide_eq_false_iff_not]
  intro e
  refine hno j hl ?_
  rw [List.getD_eq_getElem?_getD, List.getElem?_eq_getElem hl] at e
  rw [List.getElem?_eq_getElem hl]
  simp at e; rw [e]
theorem placeL_lt {L : List ByteArray} {s : ByteArray} {k : Nat} (h : placeL L s = some k) : k < L.length := by
  unfold placeL at h
  exact List.mem_range.1 (List.mem_of_find?_eq_some h)
def placeI (o : Option Nat) : Int := match o with
  | some k => k
  | none => -1
set_option maxHeartbeats 1000000 in
theorem place_any (L : List ByteArray) (s : ByteArray) (v : Value) (w : World) (hl : L.length ≤ 1000000) (hv : Sl strC 1 w v L) :
    Calls Tryz.prog 53 #[v, .string s] w fun r w' => r = .returned (.int .i64 (placeI (placeL L s))) ∧ w' = w := by
  obtain ⟨a, c, rfl, hc, hx⟩ := hv.form
  obtain ⟨n, hn⟩ : ∃ n, n = L.length := ⟨_, rfl⟩
  rw [← hn] at hc hl ⊢
  have HN := Lib.hid hn
  clear hn hv
  go_enter Tryz.func53, Tryz.ntmps53
  go_wp2_with fail
  go_loopw [5] (fun i wr => ∃ k : Nat, i = .int .i64 k ∧ k ≤ n ∧ (∀ j, j < k → L[j]? ≠ some s) ∧ wr = w) (fun i _ => n - (intOf i).toNat)
  case atStart => exact ⟨0, rfl, Nat.zero_le _, fun j h => by omega, rfl⟩
  case round =>
    obtain ⟨k, rfl, hk, hno, hW⟩ := hrel
    subst hW
    by_cases hlt : k < n
    · obtain ⟨x, hi⟩ : ∃ x, L[k]? = some x := ⟨_, List.getElem?_eq_getElem (by have := HN.out; omega)⟩
      obtain ⟨xb, xo, rfl, g⟩ := hx wr (Below.refl _ _) k x hi
      have cx := g 0 _ rfl
      simp only [Nat.mul_one, Nat.add_zero] at cx
      have hkn : (k : Int) < (n : Int) := by omega
      have hk0 : (0 : Int) ≤ (k : Int) := by omega
      have HI := Lib.hid hi
      have HNO := Lib.hid hno
      clear hx g hi hno
      by_cases he : x = s
      · subst he
        have HF : Hid (placeL L x = some k) := placeL_some HI.out HNO.out
        go_wp2_with fail
        go_ret
        exact ⟨by rw [HF.out]; rfl, rfl⟩
      · have e1 : decide (x.toList = s.toList) = false := by
          rw [decide_eq_false_iff_not]
          intro h
          rw [Lib.toList_data, Lib.toList_data] at h
          exact he (bytes_ext h)
        have e2 : (x.toList == s.toList) = false := by
          rw [beq_eq_false_iff_ne]
          intro h
          rw [Lib.toList_data, Lib.toList_data] at h
          exact he (bytes_ext h)
        have HNX : Hid (∀ j, j < k + 1 → L[j]? ≠ some s) := fun j hj => by
          by_cases q : j = k
          · subst q; rw [HI.out]; intro h; exact he (Option.some.inj h)
          · exact HNO.out j (by omega)
        clear he
        go_wp2_with fail
        go_roundw
        case rel => exact ⟨k + 1, by go_num, by omega, HNX.out, by trivial⟩
        case measure => simp [intOf]; omega
    · have hke : k = n := by omega
      subst hke
      have HF : Hid (placeL L s = none) := placeL_none (by rw [← HN.out]; exact hno)
      clear hno hx
      go_wp2_with fail
      go_ret
      exact ⟨by rw [HF.out]; rfl, rfl⟩
def putT (f : ByteArray → Option Fo) (E : List Nd) (t : Nat) : List Nd × List Int := (E.take t).foldl (putS f) ([], [])
theorem putT_next (f : ByteArray → Option Fo) {E : List Nd} {t : Nat} {x : Nd} (hx : E[t]? = some x) : putT f E (t + 1) = putS f (putT f E t) x := by
  unfold putT; rw [take_at hx, List.foldl_append]; rfl
theorem putT_len (f : ByteArray → Option Fo) (E : List Nd) : ∀ t, t ≤ E.length → (putT f E t).2.length = t
  | 0, _ => rfl
  | t + 1, h => by
    rw [putT_next f (List.getElem?_eq_getElem (by omega : t < E.length))]
    show ((putT f E t).2 ++ [_]).length = _
    rw [List.length_append, putT_len f E t (by omega)]; rfl
theorem putT_size (f : ByteArray → Option Fo) (M : Nat) (hf : ∀ s G, f s = some G → G.size ≤ M) (E : List Nd) : ∀ t, t ≤ E.length → (putT f E t).1.length ≤ t * (M + 1)
  | 0, _ => by simp [putT]
  | t + 1, h => by
    have ih := putT_size f M hf E t (by omega)
    rw [putT_next f (List.getElem?_eq_getElem (by omega : t < E.length))]
    have e : (t + 1) * (M + 1) = t * (M + 1) + (M + 1) := by rw [Nat.add_mul]; omega
    rw [e]
    unfold putS
    simp only []
    split
    · rename_i G hG
      have hg : G.size ≤ M := by
        split at hG
        · exact hf _ _ hG
        · cases hG
      unfold behind
      rw [List.length_append, List.length_map, Fo.flat_len]; omega
    · rw [List.length_append, List.length_singleton]; omega
end Go.Proofs.YtjnpkdpljmkpiaaGreatDoor
