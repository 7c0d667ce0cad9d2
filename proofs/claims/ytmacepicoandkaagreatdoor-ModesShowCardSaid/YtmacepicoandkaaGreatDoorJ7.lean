/- The expression of a node; an expression behind another one: the walks. Expressions under an operator: the walk (operators that are no calls). -/
import Derived.Test.YtmacepicoandkaaGreatDoorJ6
set_option linter.unusedVariables false
set_option linter.unusedSimpArgs false
namespace Go.Proofs.YtmacepicoandkaaGreatDoor
open Go.RowKit Go.Shelf Tx
def subL (e:List Nd) (i:Int):List Nd:=if 0≤i∧i<(e.length:Int)∧mayB e=true then (T e i.toNat).flat 0 else []
set_option maxHeartbeats 1000000 in
theorem Sub_any (e:List Nd) (v:Value) (i:Int) (w:World) (he:e.length≤1000000000) (hv:IsE w v e) :
  Calls Tryz.prog 50 #[v,.int .i64 i] w fun r w'=>∃ v',r=.returned v'∧OwnE w.heap.size w' v' (subL e i)∧Below w.heap.size w w':=by
 have HM:=May_any e v w he hv
 obtain⟨a,c,rfl,hc,hx⟩:=hv.form
 have HX:Hid (∀ W,Below w.heap.size w W→∀ i x,e[i]?=some x→∃ b o,a=some ⟨b,o,none⟩∧∀ j u,(ndL x)[j]?=some u→W.cell? ⟨b,o+i * 6+j,none⟩=some u):=hx
 obtain⟨n,hn⟩ : ∃ n,n=e.length:=⟨_,rfl⟩
 have HN:=Lib.hid hn
 clear hx hv
 by_cases hi:0≤i∧i<(n:Int)
 ·obtain⟨hi0,hi1⟩:=hi
  have hn0:¬ (n:Int)≤i:=by omega
  cases hm:mayB e with
  | false =>
   have HS:Hid (subL e i=[]):=by show _=_;unfold subL;rw[hm];simp
   rw[hm] at HM
   rw[← hn] at HM ⊢
   clear hm hn
   go_enter Tryz.func50,Tryz.ntmps50
   go_wp2_with fail
   refine HM.mono ?_
   rintro r w1 ⟨rfl,hb⟩
   clear HM
   go_wp2_with fail
   go_ret
   exact⟨_,rfl,by rw[HS.out];exact OwnE.nil_ _ _,hb⟩
  | true =>
   obtain⟨j,rfl⟩ : ∃ j:Nat,i=(j:Int):=⟨i.toNat,by omega⟩
   have HS:Hid (subL e (j:Int)=(T e j).flat 0):=by
    show _=_;unfold subL;rw[if_pos ⟨hi0,by omega,hm⟩];rfl
   have hP:=(mayB_iff e).1 hm
   have hs:=T_size hP.inR hP.nodup (by omega:j<e.length)
   have hl5:=hP.len
   have HO:=fun w1 (hb:Below w.heap.size w w1)=>order_any e hP.node a c w.heap.size w HX j (by omega) [] (.slice none 0 0) w1 hb hb.size (OwnE.nil_ _ _) (by simp;omega)
   rw[hm] at HM
   rw[← hn] at HM HO ⊢
   have HOO:=Lib.hid HO
   clear hm hn hP hs hl5 HO
   go_enter Tryz.func50,Tryz.ntmps50
   go_wp2_with fail
   refine HM.mono ?_
   rintro r w1 ⟨rfl,hb⟩
   clear HM
   have hc1:=HOO.out w1 hb
   go_wp2_with fail
   refine hc1.mono ?_
   rintro r w2 ⟨v2,rfl,hO,hG,hB⟩
   clear hc1
   have HO2:=Lib.hid hO
   clear hO hG
   go_wp2_with fail
   go_ret
   exact⟨v2,rfl,by rw[HS.out];simpa using HO2.out,hB⟩
 ·have HS:Hid (subL e i=[]):=by show _=_;unfold subL;rw[if_neg (fun h=>hi ⟨h.1,by omega⟩)]
  have hor:i<0∨(¬ i<0∧(n:Int)≤i):=by omega
  rw[← hn] at HM ⊢
  clear hi hn HM
  rcases hor with h1 | ⟨h1,h2⟩
  all_goals
   go_enter Tryz.func50,Tryz.ntmps50
   go_wp2_with fail
   go_ret
   exact⟨_,rfl,by rw[HS.out];exact OwnE.nil_ _ _,Below.refl _ _⟩
def mvPart (d:Nat) (x:Nd) (k:Nat):Nd:=⟨x.op,if 0<k∧0≤x.a then x.a+d else x.a,if 1<k∧0≤x.b then x.b+d else x.b,if 2<k∧0≤x.c then x.c+d else x.c,x.n,x.s⟩
theorem mvPart_zero (d:Nat) (x:Nd):mvPart d x 0=x:=by simp[mvPart]
theorem mvPart_end (d:Nat) (x:Nd):mvPart d x 3=mv d x:=by simp[mvPart,mv]
def smallN (m:Int) (x:Nd):Prop:=x.a≤m∧x.b≤m∧x.c≤m
theorem small_aim {m op n:Int} {s:ByteArray} {l:List Int} (hm : -1≤m) (h:∀ k∈l,k≤m):smallN m (aim (leaf op n s) l):=by
 match l with
 | []=>exact⟨hm,hm,hm⟩
 | [p]=>exact⟨h p (by simp),hm,hm⟩
 | [p,q] =>
  simp only[aim];split
  ·exact⟨h q (by simp),h p (by simp),hm⟩
  ·exact⟨h p (by simp),h q (by simp),hm⟩
 | p :: q :: r :: t=>exact⟨h p (by simp),h q (by simp),h r (by simp)⟩
theorem small_mono {m m':Int} {x:Nd} (h:smallN m x) (hm:m≤m'):smallN m' x:=by
 obtain⟨h1,h2,h3⟩:=h;exact⟨by omega,by omega,by omega⟩
theorem small_flat (F:Fo):∀ (base:Nat),∀ x∈F.flat base,smallN ((base+F.size:Nat):Int) x:=by
 induction F with
 | no=>intro _ x h;simp[Fo.flat] at h
 | tr op n s ks r ihk ihr =>
  intro base x hx
  simp only[Fo.flat,List.mem_append,List.mem_cons] at hx
  simp only[Fo.size]
  rcases hx with h | h | h
  ·exact small_mono (ihk base x h) (by omega)
  ·subst h
   exact small_aim (by omega) (fun k hk=>by have:=ks.ends_range _ k hk;omega)
  ·exact small_mono (ihr _ x h) (by omega)
theorem mvPart_step {d:Nat} {x:Nd} {k:Nat} : (k=0→mvPart d x 1 = { mvPart d x 0 with a:=if 0≤x.a then x.a+d else x.a })∧(k=1→mvPart d x 2 = { mvPart d x 1 with b:=if 0≤x.b then x.b+d else x.b })∧(k=2→mvPart d x 3 = { mvPart d x 2 with c:=if 0≤x.c then x.c+d else x.c }):=by
 refine⟨fun _=>?_,fun _=>?_,fun _=>?_⟩ <;> simp[mvPart]
set_option maxRecDepth 100000 in
set_option maxHeartbeats 8000000 in
theorem behind_any (E : List Nd) (hE : E.length ≤ 1000000) (hS : ∀ x ∈ E, smallN 1000000000 x) (a : Option Addr) (c : Nat) (base : Nat) (w0 : World)
    (HX : Hid (∀ W, Below base w0 W → ∀ i x, E[i]? = some x → ∃ b o, a = some ⟨b, o, none⟩ ∧ ∀ j u, (ndL x)[j]? = some u → W.cell? ⟨b, o + i * 6 + j, none⟩ = some u))
    (O : List Nd) (vo : Value) (w : World) (hB : Below base w0 w) (hbw : base ≤ w.heap.size) (hO : OwnE base w vo O) (hOl : O.length ≤ 1000000) :
    Calls Tryz.prog 92 #[vo, .slice a E.length c] w fun r w' => ∃ v, r = .returned v ∧ OwnE base w' v (behind O E) ∧ Gr w vo w' v ∧ Below base w0 w' := by
  obtain ⟨oa, oc, rfl, hoc⟩ := hO.form
  obtain ⟨d, hd⟩ : ∃ d, d = O.length := ⟨_, rfl⟩
  obtain ⟨n, hn⟩ : ∃ n, n = E.length := ⟨_, rfl⟩
  rw [← hd] at hO hoc hOl ⊢
  rw [← hn] at hE ⊢
  have HD := Lib.hid hd
  have HN := Lib.hid hn
  have HS := Lib.hid hS
  have HO0 := Lib.hid hO
  clear hd hn hS hO
  go_enter Tryz.func92, Tryz.ntmps92
  go_wp2_with fail
  go_loopw [0, 14] (fun ov i wr => ∃ (t : Nat), i = .int .i64 t ∧ t ≤ n ∧ OwnE base wr ov (O ++ (E.take t).map (mv d)) ∧ Gr w (.slice oa d oc) wr ov ∧ Below base w0 wr) (fun _ i _ => n - (intOf i).toNat)
  case atStart => exact ⟨0, rfl, Nat.zero_le _, by simpa using HO0.out, Gr.refl _ _, hB⟩
  case round =>
    obtain ⟨t, rfl, ht, hO, hG, hBr⟩ := hrel
    obtain ⟨ol, hol⟩ : ∃ ol, ol = (O ++ (E.take t).map (mv d)).length := ⟨_, rfl⟩
    have hol2 : ol = d + t := by rw [hol, List.length_append, List.length_map, List.length_take, ← HD.out]; have := HN.out; omega
    obtain ⟨va, vc, hva, hvc⟩ := hO.form
    rw [← hol] at hva hvc
    subst hva
    have HOL := Lib.hid hol
    have HOL2 := Lib.hid hol2
    clear hol hol2
    by_cases hlt : t < n
    · obtain ⟨x, hx⟩ : ∃ x, E[t]? = some x := ⟨_, List.getElem?_eq_getElem (by have := HN.out; omega)⟩
      obtain ⟨b, o, rfl, hcell⟩ := HX.out wr hBr t x hx
      obtain ⟨c0, c1, c2, c3, c4, c5⟩ := nd_cells hcell
      obtain ⟨s0, s1, s2⟩ := HS.out x (List.mem_of_getElem? hx)
      have HXX := Lib.hid hx
      have htn : (t : Int) < (n : Int) := by omega
      have ht0 : (0 : Int) ≤ (t : Int) := by omega
      obtain ⟨bn, hbn⟩ : ∃ bn, bn = wr.heap.size := ⟨_, rfl⟩
      have hsz := hG.size
      have HG := Lib.hid hG
      have HOO := Lib.hid hO
      -- the two blocks of the round
      have key : ∀ (N P : Array Value), Gr w (.slice oa d oc) ((wr.alloc (.cells N 85)).alloc (.cells P 157)) (.slice va ol vc) ∧ OwnE base ((wr.alloc (.cells N 85)).alloc (.cells P 157)) (.slice va ol vc) (O ++ (E.take t).map (mv d)) ∧ Below base w0 ((wr.alloc (.cells N 85)).alloc (.cells P 157)) ∧
          Blk ((wr.alloc (.cells N 85)).alloc (.cells P 157)) bn N 85 ∧ Blk ((wr.alloc (.cells N 85)).alloc (.cells P 157)) (bn + 1) P 157 := fun N P => by
        have z1 : (wr.alloc (.cells N 85)).heap.size = bn + 1 := by rw [hbn]; simp
        have n1 := (Below.refl wr.heap.size wr).alloc (Nat.le_refl _) (.cells N 85)
        have n2 := (Below.refl (wr.alloc (.cells N 85)).heap.size (wr.alloc (.cells N 85))).alloc (Nat.le_refl _) (.cells P 157)
        have nn := below_next n1 n2
        have k1 := (Blk.new wr N 85).below n2
        have k2 := Blk.new (wr.alloc (.cells N 85)) P 157
        rw [z1] at k2
        rw [← hbn] at k1
        exact ⟨HG.out.trans (Gr.of_below _ nn), HOO.out.below nn, hBr.trans (nn.mono (by omega)), k1, k2⟩
      have HKEY := Lib.hid key
      have hlow : ∀ g, (Value.slice va ol vc).ownBlock = some g → g < bn := fun g hg => by have := (HOO.out.low g hg).2; omega
      have HLOW := Lib.hid hlow
      have hbase : base ≤ bn := by omega
      have hwbn : w.heap.size ≤ bn := by omega
      have HBN := Lib.hid hbn
      clear hx hcell key hlow hG hO hbn
      go_wp2_with fail
      rw [← HBN.out]
      obtain ⟨wo, rfl⟩ : ∃ wo : World, wo = wr := ⟨_, rfl⟩
      go_loopw [23] (fun i wr => ∃ (k : Nat) (f0 f1 f2 : Int), i = .int .i64 k ∧ k ≤ 3 ∧ Hid (mvPart d x k = ⟨x.op, f0, f1, f2, x.n, x.s⟩) ∧ Gr w (.slice oa d oc) wr (.slice va ol vc) ∧ OwnE base wr (.slice va ol vc) (O ++ (E.take t).map (mv d)) ∧ Below base w0 wr ∧
          Blk wr bn #[.int .i64 x.op, .int .i64 f0, .int .i64 f1, .int .i64 f2, .int .i64 x.n, .string x.s] 85 ∧ Blk wr (bn + 1) #[.pointer (some ⟨bn, 1, none⟩), .pointer (some ⟨bn, 2, none⟩), .pointer (some ⟨bn, 3, none⟩)] 157) (fun i _ => 3 - (intOf i).toNat)
      case atStart => exact ⟨0, x.a, x.b, x.c, rfl, by omega, mvPart_zero d x, HKEY.out _ _⟩
      case round =>
        obtain ⟨k, f0, f1, f2, rfl, hk, HM, hG, hO, hBr2, k1, k2⟩ := hrel
        have h4 : k = 0 ∨ k = 1 ∨ k = 2 ∨ k = 3 := by omega
        obtain ⟨q0, q1, q2, q3, q4, q5⟩ := six_cells k1
        obtain ⟨r0, r1, r2, r3, r4, r5⟩ := six_free k1
        obtain ⟨p0, p1, p2⟩ : wr.cell? ⟨bn + 1, 0, none⟩ = some (.pointer (some ⟨bn, 1, none⟩)) ∧ wr.cell? ⟨bn + 1, 1, none⟩ = some (.pointer (some ⟨bn, 2, none⟩)) ∧ wr.cell? ⟨bn + 1, 2, none⟩ = some (.pointer (some ⟨bn, 3, none⟩)) := by
          unfold Blk at k2; simp [World.cell?, k2]
        have K1 := Lib.hid k1
        have K2 := Lib.hid k2
        have HG2 := Lib.hid hG
        have HO2 := Lib.hid hO
        have hnown : (Value.slice va ol vc).ownBlock ≠ some bn := fun h => by have := HLOW.out bn h; omega
        have HNO := Lib.hid hnown
        clear k1 k2 hG hO hk hnown
        rcases h4 with rfl | rfl | rfl | rfl
        · have hfx : f0 = x.a := by have := HM.out; simp only [mvPart, Nd.mk.injEq] at this; simpa using this.2.1.symm
          have hfs : f0 ≤ 1000000000 := by omega
          have HFX := Lib.hid hfx
          clear hfx
          by_cases hpos : 0 ≤ f0
          · have HM2 : Hid (mvPart d x 1 = ⟨x.op, (f0 + (d : Int)), f1, f2, x.n, x.s⟩) := by
              show _ = _; rw [(mvPart_step (k := 0)).1 rfl, HM.out, if_pos (by rw [← HFX.out]; exact hpos), ← HFX.out]
            go_wp2_with fail
            go_roundw
            case rel => exact ⟨1, (f0 + (d : Int)), f1, f2, by go_num, by omega, HM2, HG2.out.set hwbn _ _, HO2.out.set HNO.out _ _, below_set hBr2 hbase, by have := K1.out.setAt 1 (.int .i64 (f0 + (d : Int))); simpa using this, K2.out.other 1 (by omega) _⟩
            case measure => simp [intOf]
          · have HM2 : Hid (mvPart d x 1 = ⟨x.op, f0, f1, f2, x.n, x.s⟩) := by
              show _ = _; rw [(mvPart_step (k := 0)).1 rfl, HM.out, if_neg (by rw [← HFX.out]; exact hpos), ← HFX.out]
            go_wp2_with fail
            go_roundw
            case rel => exact ⟨1, f0, f1, f2, by go_num, by omega, HM2, HG2.out, HO2.out, hBr2, K1.out, K2.out⟩
            case measure => simp [intOf]
        · have hfx : f1 = x.b := by have := HM.out; simp only [mvPart, Nd.mk.injEq] at this; simpa using this.2.2.1.symm
          have hfs : f1 ≤ 1000000000 := by omega
          have HFX := Lib.hid hfx
          clear hfx
          by_cases hpos : 0 ≤ f1
          · have HM2 : Hid (mvPart d x 2 = ⟨x.op, f0, (f1 + (d : Int)), f2, x.n, x.s⟩) := by
              show _ = _; rw [(mvPart_step (k := 1)).2.1 rfl, HM.out, if_pos (by rw [← HFX.out]; exact hpos), ← HFX.out]
            go_wp2_with fail
            go_roundw
            case rel => exact ⟨2, f0, (f1 + (d : Int)), f2, by go_num, by omega, HM2, HG2.out.set hwbn _ _, HO2.out.set HNO.out _ _, below_set hBr2 hbase, by have := K1.out.setAt 2 (.int .i64 (f1 + (d : Int))); simpa using this, K2.out.other 2 (by omega) _⟩
            case measure => simp [intOf]
          · have HM2 : Hid (mvPart d x 2 = ⟨x.op, f0, f1, f2, x.n, x.s⟩) := by
              show _ = _; rw [(mvPart_step (k := 1)).2.1 rfl, HM.out, if_neg (by rw [← HFX.out]; exact hpos), ← HFX.out]
            go_wp2_with fail
            go_roundw
            case rel => exact ⟨2, f0, f1, f2, by go_num, by omega, HM2, HG2.out, HO2.out, hBr2, K1.out, K2.out⟩
            case measure => simp [intOf]
        · have hfx : f2 = x.c := by have := HM.out; simp only [mvPart, Nd.mk.injEq] at this; simpa using this.2.2.2.1.symm
          have hfs : f2 ≤ 1000000000 := by omega
          have HFX := Lib.hid hfx
          clear hfx
          by_cases hpos : 0 ≤ f2
          · have HM2 : Hid (mvPart d x 3 = ⟨x.op, f0, f1, (f2 + (d : Int)), x.n, x.s⟩) := by
              show _ = _; rw [(mvPart_step (k := 2)).2.2 rfl, HM.out, if_pos (by rw [← HFX.out]; exact hpos), ← HFX.out]
            go_wp2_with fail
            go_roundw
            case rel => exact ⟨3, f0, f1, (f2 + (d : Int)), by go_num, by omega, HM2, HG2.out.set hwbn _ _, HO2.out.set HNO.out _ _, below_set hBr2 hbase, by have := K1.out.setAt 3 (.int .i64 (f2 + (d : Int))); simpa using this, K2.out.other 3 (by omega) _⟩
            case measure => simp [intOf]
          · have HM2 : Hid (mvPart d x 3 = ⟨x.op, f0, f1, f2, x.n, x.s⟩) := by
              show _ = _; rw [(mvPart_step (k := 2)).2.2 rfl, HM.out, if_neg (by rw [← HFX.out]; exact hpos), ← HFX.out]
            go_wp2_with fail
            go_roundw
            case rel => exact ⟨3, f0, f1, f2, by go_num, by omega, HM2, HG2.out, HO2.out, hBr2, K1.out, K2.out⟩
            case measure => simp [intOf]
        · have HY : Hid (mv d x = ⟨x.op, f0, f1, f2, x.n, x.s⟩) := by show _ = _; rw [← mvPart_end]; exact HM.out
          have hO3 : wr.ownsRow base 85 6 (.slice va ol vc) ol ((O ++ (E.take t).map (mv d)).flatMap ndL) := by have := HO2.out; unfold OwnE at this; rw [← HOL.out] at this; exact this
          have hol3 : ol ≤ 2000000 := by have := HOL2.out; omega
          have hszw := HG2.out.size
          obtain ⟨Ot, hOt⟩ : ∃ Ot, Ot = O ++ (E.take t).map (mv d) := ⟨_, rfl⟩
          rw [← hOt] at hO3
          have HOt := Lib.hid hOt
          clear hOt
          go_wp2_with (at_builtin; refine wpList_app rowNd rfl _ _ rfl base _ _ _ rfl (hO3.alloc _) ⟨wr.heap.size, 0, none⟩ 1 [.int .i64 x.op, .int .i64 f0, .int .i64 f1, .int .i64 f2, .int .i64 x.n, .string x.s] rfl rfl ?c1 ?c2 ?c3 ?c4 (wr.heap.size + 1) ?c5 ?_)
          case c1 => exact World.news_of_block (heap_alloc_new wr _)
          case c2 => simp [Value.oneCell']
          case c3 => omega
          case c4 => simp; omega
          case c5 => simp
          intro g cap w4 hown hgrow hat hlt2 hcap
          have hgr : Gr wr (.slice va ol vc) w4 (.slice (some ⟨g, 0, none⟩) (ol + 1) cap) := by
            refine (Gr.of_below (.slice va ol vc) ((Below.refl wr.heap.size wr).alloc (Nat.le_refl _) _)).trans (Gr.of_grown hgrow fun g' hg' => ?_)
            cases hg'
            rcases hat with h | h
            · exact Or.inl h
            · exact Or.inr (by rw [h]; simp)
          have HF1 := Lib.hid (HG2.out.trans hgr)
          have hB4 : Below base w0 w4 := Gr.below hBr2 hgr (by omega) (fun g' hg' => (World.ownsRow.lt hO3 g' hg').1)
          have HOW : Hid (OwnE base w4 (.slice (some ⟨g, 0, none⟩) (ol + 1) cap) (O ++ (E.take (t + 1)).map (mv d))) := by
            show OwnE _ _ _ _
            unfold OwnE
            rw [take_at HXX.out, List.map_append, ← List.append_assoc, List.length_append, List.flatMap_append, ← HOL.out, ← HOt.out, List.map_cons, List.map_nil, HY.out]
            exact hown
          clear hown hgrow hat hgr hO3
          go_wp2_with fail
          go_roundw
          case rel => exact ⟨t + 1, by go_num, by omega, HOW.out, HF1.out, hB4⟩
          case measure => simp [intOf]; omega
    · have hte : t = n := by omega
      subst hte
      have HFIN : Hid (OwnE base wr (.slice va ol vc) (behind O E)) := by
        show OwnE _ _ _ _
        unfold behind
        rw [← HD.out]
        rw [List.take_of_length_le (by have := HN.out; omega)] at hO
        exact hO
      have HG := Lib.hid hG
      clear hO hG
      go_wp2_with fail
      go_ret
      exact ⟨_, rfl, HFIN.out, HG.out, hBr⟩
end Go.Proofs.YtmacepicoandkaaGreatDoor
namespace Go.Proofs.YtmacepicoandkaaGreatDoor
open Go.RowKit Go.Shelf Tx
def IsF (w:World) (c:List Value) (F:Fo):Prop:=∃ u,c=[u]∧IsE w u (F.flat 0)
theorem keepsF:Keeps IsF:=fun _ _ _ _ ⟨u,h1,h2⟩ hb=>⟨u,h1,Sl.below h2 hb⟩
def OwnI (base:Nat) (w:World) (v:Value) (l:List Int):Prop:=w.ownsRow base 3 1 v l.length (l.map vI)
theorem OwnI.sl {base:Nat} {w:World} {v:Value} {l:List Int} (h:OwnI base w v l):Sl intC 1 w v l:=Sl.own (enc:=intC) intC_len (by rw[flat_ints];exact h) rfl
theorem OwnI.form {base:Nat} {w:World} {v:Value} {l:List Int} (h:OwnI base w v l):∃ a c,v=.slice a l.length c∧l.length≤c:=by
 obtain⟨a,c,h1,h2,_⟩:=h.sl.form
 exact⟨a,c,h1,h2⟩
theorem OwnI.below {base:Nat} {w w':World} {v:Value} {l:List Int} (h:OwnI base w v l) (hb:Below w.heap.size w w'):OwnI base w' v l:=below_row hb h
theorem OwnI.gr {base:Nat} {w w':World} {u v v':Value} {l:List Int} (h:OwnI base w u l) (hg:Gr w v w' v') (hn:∀ g,v.ownBlock=some g→u.ownBlock≠some g):OwnI base w' u l:=by
 refine World.ownsRow.kept h (row:=v.ownBlock) ⟨hg.os,hg.tape,hg.output,hg.size,fun k hk hne=>hg.block k hk (fun e=>hne e.symm)⟩ ?_
 cases hu:u.ownBlock with
 | none=>exact Or.inl rfl
 | some g=>exact Or.inr (fun e=>hn g e.symm hu)
theorem OwnE.gr {base:Nat} {w w':World} {u v v':Value} {l:List Nd} (h:OwnE base w u l) (hg:Gr w v w' v') (hn:∀ g,v.ownBlock=some g→u.ownBlock≠some g):OwnE base w' u l:=by
 refine World.ownsRow.kept h (row:=v.ownBlock) ⟨hg.os,hg.tape,hg.output,hg.size,fun k hk hne=>hg.block k hk (fun e=>hne e.symm)⟩ ?_
 cases hu:u.ownBlock with
 | none=>exact Or.inl rfl
 | some g=>exact Or.inr (fun e=>hn g e.symm hu)
theorem OwnI.low {base:Nat} {w:World} {v:Value} {l:List Int} (h:OwnI base w v l):∀ g,v.ownBlock=some g→base≤g∧g<w.heap.size:=fun g hg=>World.ownsRow.lt h g hg
theorem sum_take (l:List Fo) (t:Nat):(cat (l.take t)).size≤(cat l).size:=by
 have:(cat l).size=(cat (l.take t)).size+(cat (l.drop t)).size:=by
  rw[← Fo.size_app,← cat_append,List.take_append_drop]
 omega
theorem count_take {l:List Fo} (h:∀ F∈l,F.count=1) (t:Nat) (ht:t≤l.length):(cat (l.take t)).count=t:=by
 rw[count_cat _ (fun F hF=>h F (List.mem_of_mem_take hF)),List.length_take];omega
theorem gr_append {w w4:World} {v:Value} {g:Nat} {n c:Nat} {o:Obj} (hgrow:(w.alloc o).grownBy w4 v.ownBlock) (hat:v.ownBlock=some g∨g=w.heap.size+1):Gr w v w4 (.slice (some ⟨g,0,none⟩) n c):=by
 refine (Gr.of_below v ((Below.refl w.heap.size w).alloc (Nat.le_refl _) _)).trans (Gr.of_grown hgrow fun g' hg'=>?_)
 cases hg'
 rcases hat with h | h
 ·exact Or.inl h
 ·exact Or.inr (by rw[h];simp)
set_option maxRecDepth 100000 in
set_option maxHeartbeats 8000000 in
theorem join_plain (op n:Int) (s:ByteArray) (Fs:List Fo) (v:Value) (w:World) (hv:Sg 1 IsF w v Fs) (h1:∀ F∈Fs,F.count=1) (hz:(cat Fs).size≤500000) (h28:op≠28) (h27:op≠27) (har:(kids (leaf op n s)).length=Fs.length) :
  Calls Tryz.prog 76 #[.int .i64 op,.int .i64 n,.string s,v] w fun r w'=>∃ v',r=.returned v'∧OwnE w.heap.size w' v' ((joinF op n s Fs).flat 0)∧Below w.heap.size w w':=by
 obtain⟨a,c,rfl,hc,hx⟩:=hv.form keepsF
 obtain⟨m,hm⟩ : ∃ m,m=Fs.length:=⟨_,rfl⟩
 have h3:m≤3:=by rw[hm,← har];exact kids_len _
 rw[← hm] at hc ⊢
 have e28:(op==28)=false:=by simp[h28]
 have e27:(op==27)=false:=by simp[h27]
 have e27':(op != 27)=true:=by simp[h27]
 have HJ:Hid (joinF op n s Fs=.tr op n s (cat Fs) .no):=by show _=_;unfold joinF;rw[if_neg h27]
 have HM:=Lib.hid hm
 have HX:=Lib.hid hx
 have H1:=Lib.hid h1
 have HZ:=Lib.hid hz
 have HAR:=Lib.hid har
 obtain⟨nb,hnb⟩ : ∃ nb,nb=w.heap.size:=⟨_,rfl⟩
 have nbw:=(Below.refl w.heap.size w).alloc (Nat.le_refl _) (.cells (ndA (leaf op n s)) 85)
 have kb:=Blk.new w (ndA (leaf op n s)) 85
 rw[← hnb] at kb
 have HNB:=Lib.hid hnb
 clear hm hx h1 hz har hv h28 h27
 simp only[leaf,ndA] at nbw kb
 have KB:=Lib.hid kb
 have NBW:=Lib.hid nbw
 clear kb nbw
 go_enter Tryz.func76,Tryz.ntmps76
 go_wp2_with fail
 generalize hW1:w.alloc (.cells #[.int .i64 op,.int .i64 (-1),.int .i64 (-1),.int .i64 (-1),.int .i64 n,.string s] 85)=W1 at *
 have kb:=KB.out
 have nbw:=NBW.out
 rw[← hnb]
 have hltb:=kb.lt
 clear hnb hW1 KB NBW
 refine (Kids_any ⟨op,-1,-1,-1,n,s⟩ W1).mono ?_
 rintro r w2 ⟨kv,rfl,hkr,hb2⟩
 obtain⟨ka,kc,hkv,-⟩:=hkr.form
 have hkl:(kids ⟨op,-1,-1,-1,n,s⟩).length=m:=by have:=HAR.out;rw[HM.out];exact this
 rw[hkl] at hkv
 subst hkv
 have em:((m:Int) != (m:Int))=false:=by simp
 have kb2:=kb.below hb2
 have B2:=below_next nbw hb2
 have hlt2:=kb2.lt
 have KB2:=Lib.hid kb2
 clear hkr hkl kb nbw hb2 hltb
 go_wp2_with fail
 go_loopw [10,11,35] (fun ov kv i wr=>∃ t:Nat,i=.int .i64 t∧t≤m∧OwnE nb wr ov ((cat (Fs.take t)).flat 0)∧OwnI nb wr kv ((cat (Fs.take t)).ends 0)∧(∀ g,ov.ownBlock=some g→nb<g∧kv.ownBlock≠some g)∧(∀ g,kv.ownBlock=some g→nb<g)∧Below nb w wr ∧
  Blk wr nb #[.int .i64 op,.int .i64 (-1),.int .i64 (-1),.int .i64 (-1),.int .i64 n,.string s] 85) (fun _ _ i _=>m - (intOf i).toNat)
 case atStart=>exact⟨0,rfl,Nat.zero_le _,OwnE.nil_ _ _,World.ownsRow_nil _ _ _ _,(fun g hg=>by cases hg),(fun g hg=>by cases hg),by rw[HNB.out];exact B2,KB2.out⟩
 case round =>
  obtain⟨t,rfl,ht,hO,hK,hd1,hd2,hB,hb⟩:=hrel
  clear B2
  have hsz0:=sum_take Fs t
  have hz:=HZ.out
  have hct:=count_take H1.out t (by have:=HM.out;omega)
  obtain⟨va,vc,hva,hvc⟩:=hO.form
  obtain⟨ka2,kc2,hka,hkc⟩:=hK.form
  rw[Fo.flat_len] at hva hvc
  rw[Fo.ends_len,hct] at hka hkc
  obtain⟨ol,hol⟩ : ∃ ol,ol=(cat (Fs.take t)).size:=⟨_,rfl⟩
  rw[← hol] at hva hvc
  subst hva hka
  have holb:ol≤500000:=by omega
  have HOL:=Lib.hid hol
  have hnbl:=hb.lt
  clear hsz0 hz hct hol
  by_cases hlt:t<m
  ·obtain⟨F,hF⟩ : ∃ F,Fs[t]?=some F:=⟨_,List.getElem?_eq_getElem (by have:=HM.out;omega)⟩
   have hF1:=H1.out F (List.mem_of_getElem? hF)
   have hFs:=one_size hF1
   have hFF:Hid (Fs.take (t+1)=Fs.take t++[F]):=take_at hF
   have hszF:ol+F.size≤500000:=by
    have h1:=sum_take Fs (t+1)
    rw[hFF.out,cat_snoc,Fo.size_app] at h1
    have:=HZ.out;have:=HOL.out;omega
   obtain⟨b,o,cs,rfl,⟨u,rfl,hu⟩,hcell⟩:=HX.out w (Below.refl _ _) t F hF
   have cu0:=hcell 0 u rfl
   simp only[Nat.mul_one,Nat.add_zero] at cu0
   have cu:wr.cell? ⟨b,o+t,none⟩=some u:=(hB.cell (by rw[HNB.out];exact World.block_lt_of_cell? w _ cu0)).trans cu0
   obtain⟨pa,pc,rfl,hpc,hpx⟩:=hu.form
   rw[Fo.flat_len] at cu hpc
   obtain⟨fl,hfl⟩ : ∃ fl,fl=F.size:=⟨_,rfl⟩
   have hbh:=behind_any (F.flat 0) (by rw[Fo.flat_len];omega) (fun x hx=>small_mono (small_flat F 0 x hx) (by omega)) pa pc nb w (by rw[HNB.out];exact hpx) ((cat (Fs.take t)).flat 0) (.slice va ol vc) wr hB (by omega) hO (by rw[Fo.flat_len,← HOL.out];omega)
   rw[Fo.flat_len,← hfl] at hbh
   rw[← hfl] at cu hpc hszF hFs
   have HBH:=Lib.hid hbh
   have HK:=Lib.hid hK
   have HD1:=Lib.hid hd1
   have HD2:=Lib.hid hd2
   have HBB:=Lib.hid hb
   have HF1:=Lib.hid hF1
   have HFL:=Lib.hid hfl
   have hfl0:((fl:Int)==0)=false:=by rw[beq_eq_false_iff_ne];omega
   have htm:(t:Int)<(m:Int):=by omega
   have ht0:(0:Int)≤(t:Int):=by omega
   clear hF hcell cu0 hpx hu hbh hK hd1 hd2 hb hF1 hfl hO
   go_wp2_with fail
   refine HBH.out.mono ?_
   rintro r w3 ⟨v3,rfl,hO3,hG3,hB3⟩
   rw[behind_flat,← cat_snoc,← hFF.out] at hO3
   have hK3:=OwnI.gr HK.out hG3 (fun g hg=>(HD1.out g hg).2)
   have hb3:=hG3.blk HBB.out (fun h=>by have:=(HD1.out nb h).1;omega)
   have hd3:∀ g,v3.ownBlock=some g→nb<g∧(Value.slice ka2 t kc2).ownBlock≠some g:=fun g hg=>by
    rcases hG3.own g hg with h | h
    ·exact HD1.out g h
    ·exact⟨by omega,fun e=>by have:=(HK.out.low g e).2;omega⟩
   obtain⟨va3,vc3,hva3,-⟩:=hO3.form
   have hol3:((cat (Fs.take (t+1))).flat 0).length=ol+fl:=by rw[Fo.flat_len,hFF.out,cat_snoc,Fo.size_app,HOL.out,HFL.out]
   rw[hol3] at hva3
   subst hva3
   have hK4:w3.ownsRow nb 3 1 (.slice ka2 t kc2) t (((cat (Fs.take t)).ends 0).map vI):=by
    have:=hK3;unfold OwnI at this
    rw[Fo.ends_len,count_take H1.out t (by have:=HM.out;omega)] at this;exact this
   have HO3:=Lib.hid hO3
   have HB3:=Lib.hid hb3
   have HD3:=Lib.hid hd3
   have hsz3:nb≤w3.heap.size:=by have:=hG3.size;omega
   have hfsum:(1:Int)≤(ol:Int)+(fl:Int):=by omega
   have hkb3:t≤3:=by omega
   have HKL:=Lib.hid (fun g (hg:(Value.slice ka2 t kc2).ownBlock=some g)=>HD2.out g hg)
   clear hO3 hb3 hd3 hol3 hK3 hG3 cu hB
   go_wp2_with (at_builtin;refine wpList_app rowI rfl _ _ rfl nb _ _ _ rfl (hK4.alloc _) ⟨w3.heap.size,0,none⟩ 1 [.int .i64 ((ol:Int)+(fl:Int) - 1)] rfl rfl ?c1 ?c2 ?c3 ?c4 (w3.heap.size+1) ?c5 ?_)
   case c1=>exact World.news_of_block (heap_alloc_new w3 _)
   case c2=>simp[Value.oneCell']
   case c3=>omega
   case c4=>simp;omega
   case c5=>simp
   intro g cap w4 hown hgrow hat hlt4 hcap
   have hgr:Gr w3 (.slice ka2 t kc2) w4 (.slice (some ⟨g,0,none⟩) (t+1) cap):=gr_append hgrow hat
   have HO4:=Lib.hid (OwnE.gr HO3.out hgr (fun g' hg' e=>(HD3.out g' e).2 hg'))
   have HK4:Hid (OwnI nb w4 (.slice (some ⟨g,0,none⟩) (t+1) cap) ((cat (Fs.take (t+1))).ends 0)):=by
    show OwnI _ _ _ _
    unfold OwnI
    rw[Fo.ends_len,count_take H1.out (t+1) (by have:=HM.out;omega),hFF.out,cat_snoc,Fo.ends_app,ends_one HF1.out,List.map_append,List.map_cons,List.map_nil]
    have e:vI ((0+(cat (Fs.take t)).size+F.size - 1:Nat):Int)=.int .i64 ((ol:Int)+(fl:Int) - 1):=by
     rw[← HOL.out,← HFL.out];congr 1;omega
    rw[e];exact hown
   have hgnew:nb<g:=by
    rcases hat with h | h
    ·exact HKL.out g h
    ·omega
   have HDD:Hid (∀ g',(Value.slice va3 (ol+fl) vc3).ownBlock=some g'→nb<g'∧(Value.slice (some ⟨g,0,none⟩) (t+1) cap).ownBlock≠some g'):=fun g' hg'=>by
    refine⟨(HD3.out g' hg').1,fun e=>?_⟩
    cases e
    rcases hat with h | h
    ·exact (HD3.out g hg').2 h
    ·have:=(HO3.out.low g hg').2;omega
   have HB4:=Lib.hid (hgr.blk HB3.out (fun h=>by have:=HKL.out nb h;omega))
   have hB4:Below nb w w4:=Gr.below hB3 hgr hsz3 (fun g' hg'=>by have:=HKL.out g' hg';omega)
   clear hown hgrow hat hgr hK4 hB3
   go_wp2_with fail
   go_roundw
   case rel=>exact⟨t+1,by go_num,by omega,HO4.out,HK4.out,HDD.out,(fun g' hg'=>by cases hg';exact hgnew),hB4,HB4.out⟩
   case measure=>simp[intOf];omega
  ·have hte:t=m:=by omega
   subst hte
   have hfull:Fs.take t=Fs:=List.take_of_length_le (by have:=HM.out;omega)
   rw[hfull] at hO hK
   have hKs:=hK.sl
   have hl3:((cat Fs).ends 0).length≤3:=by rw[Fo.ends_len,count_cat Fs H1.out];have:=HM.out;omega
   have hw:=with_parts ⟨op,-1,-1,-1,n,s⟩ _ hl3 _ wr hKs
   obtain⟨z0,z1,z2,z3,z4,z5⟩:=six_cells hb
   have HFL:Hid (∀ o' a' b' c' n' s',aim ⟨op,-1,-1,-1,n,s⟩ ((cat Fs).ends 0)=⟨o',a',b',c',n',s'⟩→(joinF op n s Fs).flat 0=(cat Fs).flat 0++[(⟨o',a',b',c',n',s'⟩ : Nd)]):=fun o' a' b' c' n' s' h=>by
    rw[HJ.out,Fo.flat,Fo.flat]
    have:aim (leaf op n s) ((cat Fs).ends 0)=⟨o',a',b',c',n',s'⟩:=h
    rw[this]
   have HOO:=Lib.hid hO
   have HD1:=Lib.hid hd1
   have HOL2:Hid (ol=(cat Fs).size):=by show _=_;rw[← hfull];exact HOL.out
   clear hfull hK hKs hl3 hO hd1 hd2 hb
   go_wp2_with fail
   refine hw.mono ?_
   rintro r w2 ⟨o',a',b',c',n',s',rfl,hy,hb2⟩
   have hO2:=HOO.out.below hb2
   have hB2:=hB.trans (hb2.mono (by omega))
   have hsz2:nb≤w2.heap.size:=by have:=hb2.size;omega
   have hO3:w2.ownsRow nb 85 6 (.slice va ol vc) ol (((cat Fs).flat 0).flatMap ndL):=by have:=hO2;unfold OwnE at this;rw[Fo.flat_len,← HOL2.out] at this;exact this
   clear hw hO2 z0 z1 z2 z3 z4 z5 hb2
   go_wp2_with (at_builtin;refine wpList_app rowNd rfl _ _ rfl nb _ _ _ rfl (hO3.alloc _) ⟨w2.heap.size,0,none⟩ 1 [.int .i64 o',.int .i64 a',.int .i64 b',.int .i64 c',.int .i64 n',.string s'] rfl rfl ?c1 ?c2 ?c3 ?c4 (w2.heap.size+1) ?c5 ?_)
   case c1=>exact World.news_of_block (heap_alloc_new w2 _)
   case c2=>simp[Value.oneCell']
   case c3=>omega
   case c4=>simp;omega
   case c5=>simp
   intro g cap w4 hown hgrow hat hlt5 hcap
   have hgr:Gr w2 (.slice va ol vc) w4 (.slice (some ⟨g,0,none⟩) (ol+1) cap):=gr_append hgrow hat
   have hB4:Below nb w w4:=Gr.below hB2 hgr hsz2 (fun g' hg'=>by have:=(HD1.out g' hg').1;omega)
   have HOW:=Lib.hid hown
   clear hown hgrow hat hgr hO3
   go_wp2_with fail
   go_ret
   refine⟨_,rfl,?_,by rw[← HNB.out];exact hB4⟩
   rw[HFL.out _ _ _ _ _ _ hy.out,← HNB.out]
   unfold OwnE
   rw[List.length_append,List.flatMap_append,Fo.flat_len,← HOL2.out]
   exact HOW.out
end Go.Proofs.YtmacepicoandkaaGreatDoor
