/- A node with other operands: the walk. May a node be: the walk. How deep nodes are: the walk. May an expression be: the walk. -/
import Derived.RegionTactic
import Derived.Lib.Hide
import Derived.Deep.DeepCutAuto
import Derived.Deep.CutBlock
import Derived.Laws.MakeOwn
import Derived.Laws.OwnMore
import Derived.Test.YtmacepicoandkaaGreatDoorJ4
set_option linter.unusedVariables false
set_option linter.unusedSimpArgs false
namespace Go.Proofs.YtmacepicoandkaaGreatDoor
open Go.RowKit Go.Shelf Tx
theorem Blk.setAt {W:World} {b T:Nat} {cs:Array Value} (h:Blk W b cs T) (i:Nat) (y:Value):Blk (W.setCell ⟨b,i,none⟩ y) b (cs.setIfInBounds i y) T:=by
 unfold Blk at h ⊢
 simp[World.setCell,Array.getElem?_modify,h]
theorem six_cells {W:World} {b T:Nat} {c0 c1 c2 c3 c4 c5:Value} (h:Blk W b #[c0,c1,c2,c3,c4,c5] T) :
  W.cell? ⟨b,0,none⟩=some c0∧W.cell? ⟨b,1,none⟩=some c1∧W.cell? ⟨b,2,none⟩=some c2∧W.cell? ⟨b,3,none⟩=some c3∧W.cell? ⟨b,4,none⟩=some c4∧W.cell? ⟨b,5,none⟩=some c5:=by
 unfold Blk at h;simp[World.cell?,h]
theorem six_free {W:World} {b T:Nat} {c0 c1 c2 c3 c4 c5:Value} (h:Blk W b #[c0,c1,c2,c3,c4,c5] T) :
  W.frozen? ⟨b,0,none⟩=false∧W.frozen? ⟨b,1,none⟩=false∧W.frozen? ⟨b,2,none⟩=false∧W.frozen? ⟨b,3,none⟩=false∧W.frozen? ⟨b,4,none⟩=false∧W.frozen? ⟨b,5,none⟩=false:=by
 unfold Blk at h;simp[World.frozen?,h]
def ndA (x:Nd):Array Value:=#[.int .i64 x.op,.int .i64 x.a,.int .i64 x.b,.int .i64 x.c,.int .i64 x.n,.string x.s]
def WithPost (x:Nd) (l:List Int) (w:World) (e:Ending) (w':World):Prop:=e=.returned (ndV (aim x l))∧Below w.heap.size w w'
set_option maxRecDepth 100000 in
set_option maxHeartbeats 1000000 in
theorem with_two (x:Nd) (p q:Int) (h28:x.op=28) (v:Value) (w:World) (hv:Sl intC 1 w v [p,q]):Calls Tryz.prog 70 #[ndV x,v] w (WithPost x [p,q] w):=by
 obtain⟨a,c,rfl,hc,hx⟩:=hv.form
 have B1:Below w.heap.size w (w.alloc (.cells (ndA x) 85)):=(Below.refl _ _).alloc (Nat.le_refl _) _
 have z1:(w.alloc (.cells (ndA x) 85)).heap.size=w.heap.size+1:=by simp
 obtain⟨zr,hzr⟩ : ∃ zr,zr=#[Value.int .i64 0,.int .i64 0,.int .i64 0,.int .i64 0,.int .i64 0,.string ⟨#[]⟩]:=⟨_,rfl⟩
 have k1:=Blk.new w (ndA x) 85
 have n2:=(Below.refl (w.alloc (.cells (ndA x) 85)).heap.size (w.alloc (.cells (ndA x) 85))).alloc (Nat.le_refl _) (.cells zr 85)
 have k2:=Blk.new (w.alloc (.cells (ndA x) 85)) zr 85
 rw[z1] at k2
 have B2:=below_next B1 n2
 have k1':=k1.below n2
 subst hzr
 obtain⟨op,xa,xb,xc,xn,xs⟩:=x
 simp only[] at h28
 subst h28
 simp only[ndA] at k1' k2 B2
 obtain⟨b0,o0,rfl,g0⟩:=hx _ B2 0 p rfl
 obtain⟨b1,o1,hab,g1⟩:=hx _ B2 1 q rfl
 cases hab
 have c0:=g0 0 _ rfl
 have c1:=g1 0 _ rfl
 simp only[Nat.zero_mul,Nat.add_zero,Nat.one_mul] at c0 c1
 obtain⟨b2,o2,hab,g2⟩:=hx w (Below.refl _ _) 0 p rfl
 cases hab
 have hlt:=World.block_lt_of_cell? w _ (g2 0 _ rfl)
 have hne:b0≠w.heap.size:=by simp at hlt;omega
 have hz:w.heap.size+1≠w.heap.size:=by omega
 have e28:((28:Int)==28)=true:=rfl
 clear g0 g1 g2 hx hv n2 z1 k1 hlt
 unfold ndV
 go_enter Tryz.func70,Tryz.ntmps70
 go_wp2_with fail
 go_region
 all_goals
  go_wp2_with fail
  exact bodyPost_ret (v:=.agg #[.int .i64 28,.int .i64 q,.int .i64 p,.int .i64 xc,.int .i64 xn,.string xs]) (by simp[results,Tryz.results70,go_sem]) rfl ⟨rfl,(((Below.refl _ _).alloc (Nat.le_refl _) _).alloc (by simp) _).drew⟩
def ndPart (x:Nd) (l:List Int) (k:Nat):Nd:=⟨x.op,(l.take k).getD 0 x.a,(l.take k).getD 1 x.b,(l.take k).getD 2 x.c,x.n,x.s⟩
theorem ndPart_zero (x:Nd) (l:List Int):ndPart x l 0=x:=by simp[ndPart]
theorem ndPart_end {x:Nd} {l:List Int} (h3:l.length≤3) (h:¬ (x.op=28∧l.length=2)):ndPart x l 3=aim x l:=by
 match l with
 | []=>rfl
 | [p]=>rfl
 | [p,q]=>simp only[ndPart,aim];simp at h;rw[if_neg h];rfl
 | [p,q,r]=>rfl
 | _ :: _ :: _ :: _ :: _=>simp at h3
theorem ndPart_same {x:Nd} {l:List Int} {k:Nat} (h:l.length≤k):ndPart x l (k+1)=ndPart x l k:=by
 unfold ndPart;rw[List.take_of_length_le h,List.take_of_length_le (by omega)]
theorem ndPart_0 {x:Nd} {l:List Int} {y:Int} (h:l[0]?=some y):ndPart x l 1 = { ndPart x l 0 with a:=y }:=by
 match l with
 | []=>simp at h
 | p :: l=>simp at h;subst h;simp[ndPart]
theorem ndPart_1 {x:Nd} {l:List Int} {y:Int} (h:l[1]?=some y):ndPart x l 2 = { ndPart x l 1 with b:=y }:=by
 match l with
 | []=>simp at h
 | [p]=>simp at h
 | p :: q :: l=>simp at h;subst h;simp[ndPart]
theorem ndPart_2 {x:Nd} {l:List Int} {y:Int} (h:l[2]?=some y):ndPart x l 3 = { ndPart x l 2 with c:=y }:=by
 match l with
 | []=>simp at h
 | [p]=>simp at h
 | [p,q]=>simp at h
 | p :: q :: r :: l=>simp at h;subst h;simp[ndPart]
set_option maxRecDepth 100000 in
set_option maxHeartbeats 2000000 in
theorem with_loop (x : Nd) (l : List Int) (h3 : l.length ≤ 3) (h28 : ¬ (x.op = 28 ∧ l.length = 2)) (v : Value) (w : World) (hv : Sl intC 1 w v l) : Calls Tryz.prog 70 #[ndV x, v] w (WithPost x l w) := by
  obtain ⟨a, c, rfl, hc, hx⟩ := hv.form
  have HX : Hid (∀ W, Below w.heap.size w W → ∀ (i : Nat) (y : Int), l[i]? = some y → ∃ b o, a = some ⟨b, o, none⟩ ∧ b < w.heap.size ∧ W.cell? ⟨b, o + i, none⟩ = some (.int .i64 y)) := fun W hW i y hi => by
    obtain ⟨b, o, rfl, g⟩ := hx W hW i y hi
    obtain ⟨b', o', h', g'⟩ := hx w (Below.refl _ _) i y hi
    cases h'
    refine ⟨b, o, rfl, World.block_lt_of_cell? w _ (g' 0 _ rfl), ?_⟩
    have := g 0 _ rfl
    simpa using this
  have HE : Hid (ndPart x l 3 = aim x l) := ndPart_end h3 h28
  have hor : (x.op == 28) = false ∨ ((x.op == 28) = true ∧ ((l.length : Int) == 2) = false) := by
    by_cases h : x.op = 28
    · exact Or.inr ⟨by simp [h], by rw [beq_eq_false_iff_ne]; omega⟩
    · exact Or.inl (by simp [h])
  have H0 : Hid (ndPart x l 0 = x) := ndPart_zero x l
  -- the three blocks of the call's own
  have HS : Hid (∀ (A Z P : Array Value), Below w.heap.size w (((w.alloc (.cells A 85)).alloc (.cells Z 85)).alloc (.cells P 157)) ∧
      Blk (((w.alloc (.cells A 85)).alloc (.cells Z 85)).alloc (.cells P 157)) w.heap.size A 85 ∧
      Blk (((w.alloc (.cells A 85)).alloc (.cells Z 85)).alloc (.cells P 157)) (w.heap.size + 1) Z 85 ∧
      Blk (((w.alloc (.cells A 85)).alloc (.cells Z 85)).alloc (.cells P 157)) (w.heap.size + 2) P 157) := fun A Z P => by
    have z1 : (w.alloc (.cells A 85)).heap.size = w.heap.size + 1 := by simp
    have z2 : ((w.alloc (.cells A 85)).alloc (.cells Z 85)).heap.size = w.heap.size + 2 := by simp
    have B1 : Below w.heap.size w (w.alloc (.cells A 85)) := (Below.refl _ _).alloc (Nat.le_refl _) _
    have n2 := (Below.refl (w.alloc (.cells A 85)).heap.size (w.alloc (.cells A 85))).alloc (Nat.le_refl _) (.cells Z 85)
    have n3 := (Below.refl ((w.alloc (.cells A 85)).alloc (.cells Z 85)).heap.size ((w.alloc (.cells A 85)).alloc (.cells Z 85))).alloc (Nat.le_refl _) (.cells P 157)
    have k1 := ((Blk.new w A 85).below n2).below n3
    have k2 := (Blk.new (w.alloc (.cells A 85)) Z 85).below n3
    have k3 := Blk.new ((w.alloc (.cells A 85)).alloc (.cells Z 85)) P 157
    rw [z1] at k2
    rw [z2] at k3
    exact ⟨below_next (below_next B1 n2) n3, k1, k2, k3⟩
  obtain ⟨n, hn⟩ : ∃ n, n = l.length := ⟨_, rfl⟩
  rw [← hn] at hor hc h3 ⊢
  have HN : Hid (n = l.length) := hn
  clear hn hx hv h28
  have HW : Hid (∀ (wr : World) (y : Nd), Below w.heap.size w wr → Blk wr w.heap.size (ndA y) 85 → ndPart x l 3 = y → WithPost x l w (.returned (ndV y)) wr) := fun wr y hb _ hy => ⟨by rw [← hy, HE.out], hb⟩
  obtain ⟨op, xa, xb, xc, xn, xs⟩ := x
  unfold ndV
  simp only [] at hor ⊢
  rcases hor with e28 | ⟨e28, e2⟩
  all_goals
    go_enter Tryz.func70, Tryz.ntmps70
    go_wp2_with fail
    go_loopw [29] (fun i wr => ∃ (k : Nat) (y0 y1 y2 : Int), i = .int .i64 k ∧ k ≤ 3 ∧ ndPart ⟨op, xa, xb, xc, xn, xs⟩ l k = ⟨op, y0, y1, y2, xn, xs⟩ ∧ Below w.heap.size w wr ∧ Blk wr w.heap.size #[.int .i64 op, .int .i64 y0, .int .i64 y1, .int .i64 y2, .int .i64 xn, .string xs] 85 ∧
      Blk wr (w.heap.size + 1) #[.int .i64 0, .int .i64 0, .int .i64 0, .int .i64 0, .int .i64 0, .string ⟨#[]⟩] 85 ∧ Blk wr (w.heap.size + 2) #[.pointer (some ⟨w.heap.size, 1, none⟩), .pointer (some ⟨w.heap.size, 2, none⟩), .pointer (some ⟨w.heap.size, 3, none⟩)] 157) (fun i _ => 3 - (intOf i).toNat)
    case atStart => exact ⟨0, xa, xb, xc, rfl, by omega, H0.out, HS.out _ _ _⟩
    case round =>
      obtain ⟨k, y0, y1, y2, rfl, hk, hy, hb, k1, k2, k3⟩ := hrel
      have HY : Hid (ndPart ⟨op, xa, xb, xc, xn, xs⟩ l k = ⟨op, y0, y1, y2, xn, xs⟩) := hy
      clear hy
      have h4 : k = 0 ∨ k = 1 ∨ k = 2 ∨ k = 3 := by omega
      have g1 : w.heap.size + 1 ≠ w.heap.size := by omega
      have g2 : w.heap.size + 2 ≠ w.heap.size := by omega
      obtain ⟨q0, q1, q2, q3, q4, q5⟩ := six_cells k1
      obtain ⟨r0, r1, r2, r3, r4, r5⟩ := six_free k1
      have K1 := Lib.hid k1
      have K2 := Lib.hid k2
      have K3 := Lib.hid k3
      obtain ⟨p0, p1, p2⟩ : wr.cell? ⟨w.heap.size + 2, 0, none⟩ = some (.pointer (some ⟨w.heap.size, 1, none⟩)) ∧ wr.cell? ⟨w.heap.size + 2, 1, none⟩ = some (.pointer (some ⟨w.heap.size, 2, none⟩)) ∧ wr.cell? ⟨w.heap.size + 2, 2, none⟩ = some (.pointer (some ⟨w.heap.size, 3, none⟩)) := by
        unfold Blk at k3; simp [World.cell?, k3]
      obtain ⟨s0, s1, s2, s3, s4, s5⟩ := six_cells k2
      obtain ⟨t0, t1, t2, t3, t4, t5⟩ := six_free k2
      clear k1 k2 k3 hk
      rcases h4 with rfl | rfl | rfl | rfl
      · by_cases hkn : 0 < n
        · obtain ⟨y, hy⟩ : ∃ y, l[0]? = some y := ⟨_, List.getElem?_eq_getElem (by have := HN.out; omega)⟩
          obtain ⟨b, o, rfl, hlt, hc0⟩ := HX.out wr hb 0 y hy
          have HP : Hid (ndPart ⟨op, xa, xb, xc, xn, xs⟩ l 1 = ⟨op, y, y1, y2, xn, xs⟩) := by show _ = _; rw [ndPart_0 hy, HY.out]
          have hne : b ≠ w.heap.size := by omega
          have hkn2 : (0 : Int) < (n : Int) := by omega
          simp only [Nat.add_zero] at hc0
          clear hy hkn
          go_wp2_with fail
          go_roundw
          case rel => exact ⟨1, y, y1, y2, by go_num, by omega, HP.out, hb.setCell (Nat.le_refl _) _, by have := K1.out.setAt 1 (.int .i64 y); simpa using this, K2.out.other 1 g1 _, K3.out.other 1 g2 _⟩
          case measure => simp [intOf]
        · have HP : Hid (ndPart ⟨op, xa, xb, xc, xn, xs⟩ l 1 = ⟨op, y0, y1, y2, xn, xs⟩) := by show _ = _; rw [ndPart_same (by have := HN.out; omega), HY.out]
          have hkn2 : ¬ (0 : Int) < (n : Int) := by omega
          clear hkn
          go_wp2_with fail
          go_roundw
          case rel => exact ⟨1, y0, y1, y2, by go_num, by omega, HP.out, hb, K1.out, K2.out, K3.out⟩
          case measure => simp [intOf]
      · by_cases hkn : 1 < n
        · obtain ⟨y, hy⟩ : ∃ y, l[1]? = some y := ⟨_, List.getElem?_eq_getElem (by have := HN.out; omega)⟩
          obtain ⟨b, o, rfl, hlt, hc0⟩ := HX.out wr hb 1 y hy
          have HP : Hid (ndPart ⟨op, xa, xb, xc, xn, xs⟩ l 2 = ⟨op, y0, y, y2, xn, xs⟩) := by show _ = _; rw [ndPart_1 hy, HY.out]
          have hne : b ≠ w.heap.size := by omega
          have hkn2 : (1 : Int) < (n : Int) := by omega
          clear hy hkn
          go_wp2_with fail
          go_roundw
          case rel => exact ⟨2, y0, y, y2, by go_num, by omega, HP.out, hb.setCell (Nat.le_refl _) _, by have := K1.out.setAt 2 (.int .i64 y); simpa using this, K2.out.other 2 g1 _, K3.out.other 2 g2 _⟩
          case measure => simp [intOf]
        · have HP : Hid (ndPart ⟨op, xa, xb, xc, xn, xs⟩ l 2 = ⟨op, y0, y1, y2, xn, xs⟩) := by show _ = _; rw [ndPart_same (by have := HN.out; omega), HY.out]
          have hkn2 : ¬ (1 : Int) < (n : Int) := by omega
          clear hkn
          go_wp2_with fail
          go_roundw
          case rel => exact ⟨2, y0, y1, y2, by go_num, by omega, HP.out, hb, K1.out, K2.out, K3.out⟩
          case measure => simp [intOf]
      · by_cases hkn : 2 < n
        · obtain ⟨y, hy⟩ : ∃ y, l[2]? = some y := ⟨_, List.getElem?_eq_getElem (by have := HN.out; omega)⟩
          obtain ⟨b, o, rfl, hlt, hc0⟩ := HX.out wr hb 2 y hy
          have HP : Hid (ndPart ⟨op, xa, xb, xc, xn, xs⟩ l 3 = ⟨op, y0, y1, y, xn, xs⟩) := by show _ = _; rw [ndPart_2 hy, HY.out]
          have hne : b ≠ w.heap.size := by omega
          have hkn2 : (2 : Int) < (n : Int) := by omega
          clear hy hkn
          go_wp2_with fail
          go_roundw
          case rel => exact ⟨3, y0, y1, y, by go_num, by omega, HP.out, hb.setCell (Nat.le_refl _) _, by have := K1.out.setAt 3 (.int .i64 y); simpa using this, K2.out.other 3 g1 _, K3.out.other 3 g2 _⟩
          case measure => simp [intOf]
        · have HP : Hid (ndPart ⟨op, xa, xb, xc, xn, xs⟩ l 3 = ⟨op, y0, y1, y2, xn, xs⟩) := by show _ = _; rw [ndPart_same (by have := HN.out; omega), HY.out]
          have hkn2 : ¬ (2 : Int) < (n : Int) := by omega
          clear hkn
          go_wp2_with fail
          go_roundw
          case rel => exact ⟨3, y0, y1, y2, by go_num, by omega, HP.out, hb, K1.out, K2.out, K3.out⟩
          case measure => simp [intOf]
      · go_wp2_with fail
        exact bodyPost_ret (v := .agg #[.int .i64 op, .int .i64 y0, .int .i64 y1, .int .i64 y2, .int .i64 xn, .string xs]) (by simp [results, Tryz.results70, go_sem, s0, s1, s2, s3, s4, s5]) rfl ⟨by rw [← HE.out, HY.out], ((((((hb.setCell (by simp) _).setCell (by simp) _).setCell (by simp) _).setCell (by simp) _).setCell (by simp) _).setCell (by simp) _)⟩
theorem with_any (x:Nd) (l:List Int) (h3:l.length≤3) (v:Value) (w:World) (hv:Sl intC 1 w v l):Calls Tryz.prog 70 #[ndV x,v] w (WithPost x l w):=by
 by_cases h:x.op=28∧l.length=2
 ·obtain⟨h1,h2⟩:=h
  match l,h2 with
  | [p,q],_=>exact with_two x p q h1 v w hv
 ·exact with_loop x l h3 h v w hv
end Go.Proofs.YtmacepicoandkaaGreatDoor
namespace Go.Proofs.YtmacepicoandkaaGreatDoor
open Go.RowKit Go.Shelf Tx
theorem Blk.six {W w':World} {b T:Nat} {c0 c1 c2 c3 c4 c5:Value} (h:Blk W b #[c0,c1,c2,c3,c4,c5] T) (hb:Below W.heap.size W w') :
  w'.cell? ⟨b,0,none⟩=some c0∧w'.cell? ⟨b,1,none⟩=some c1∧w'.cell? ⟨b,2,none⟩=some c2∧w'.cell? ⟨b,3,none⟩=some c3∧w'.cell? ⟨b,4,none⟩=some c4∧w'.cell? ⟨b,5,none⟩=some c5:=six_cells (h.below hb)
theorem kids_len (x:Nd):(kids x).length≤3:=by
 unfold kids;repeat' split
 all_goals simp
theorem with_parts (x:Nd) (l:List Int) (h3:l.length≤3) (v:Value) (w:World) (hv:Sl intC 1 w v l):Calls Tryz.prog 70 #[ndV x,v] w fun e w'=>∃ (o a b c n:Int) (s:ByteArray),e=.returned (.agg #[.int .i64 o,.int .i64 a,.int .i64 b,.int .i64 c,.int .i64 n,.string s])∧Hid (aim x l=⟨o,a,b,c,n,s⟩)∧Below w.heap.size w w' :=
 (with_any x l h3 v w hv).mono fun _ _ ⟨h1,h2⟩=>⟨_,_,_,_,_,_,h1,rfl,h2⟩
theorem below_six {W w':World} {b:Nat} {c0 c1 c2 c3 c4 c5:Value} (h:Below W.heap.size W w') (hb:W.heap.size≤b):Below W.heap.size W ((((((w'.setCell ⟨b,0,none⟩ c0).setCell ⟨b,1,none⟩ c1).setCell ⟨b,2,none⟩ c2).setCell ⟨b,3,none⟩ c3).setCell ⟨b,4,none⟩ c4).setCell ⟨b,5,none⟩ c5) :=
 (((((h.setCell hb _).setCell hb _).setCell hb _).setCell hb _).setCell hb _).setCell hb _
theorem ndPart0 (u0 u1 u2 u3 u4 u5:Value) (w:World):(part 3 #[u0,u1,u2,u3,u4,u5] 0).run Tryz.prog w=.ok u0 w:=by kernel_rfl
theorem ndPart1 (u0 u1 u2 u3 u4 u5:Value) (w:World):(part 3 #[u0,u1,u2,u3,u4,u5] 1).run Tryz.prog w=.ok u1 w:=by kernel_rfl
theorem ndPart2 (u0 u1 u2 u3 u4 u5:Value) (w:World):(part 3 #[u0,u1,u2,u3,u4,u5] 2).run Tryz.prog w=.ok u2 w:=by kernel_rfl
theorem ndPart3 (u0 u1 u2 u3 u4 u5:Value) (w:World):(part 3 #[u0,u1,u2,u3,u4,u5] 3).run Tryz.prog w=.ok u3 w:=by kernel_rfl
theorem ndPart4 (u0 u1 u2 u3 u4 u5:Value) (w:World):(part 3 #[u0,u1,u2,u3,u4,u5] 4).run Tryz.prog w=.ok u4 w:=by kernel_rfl
theorem ndPart5 (u0 u1 u2 u3 u4 u5:Value) (w:World):(part 9 #[u0,u1,u2,u3,u4,u5] 5).run Tryz.prog w=.ok u5 w:=by kernel_rfl
theorem ndStood:Tryz.prog.stoodInHeld 85=false:=by kernel_rfl
set_option maxRecDepth 100000 in
theorem eqNd (x y:Nd) (w:World):(Op.equalIn 10000 85 (ndV x) (ndV y)).run Tryz.prog w=.ok (decide (x=y)) w:=by
 have hu:=Tryz.underlying85
 have hf:=fields_eq Tryz.underlying85
 have hi:∀ (d:Nat) (p q:Int),(Op.equalIn (d+1) 3 (.int .i64 p) (.int .i64 q)).run Tryz.prog w=.ok (p==q) w:=fun d p q=>run_equalIn_int w d _ _ _ p q Tryz.underlying3
 have hs:∀ (d:Nat) (p q:ByteArray),(Op.equalIn (d+1) 9 (.string p) (.string q)).run Tryz.prog w=.ok (decide (p=q)) w:=fun d p q=>by
  rw[run_equalIn_string w d _ p q Tryz.underlying9]
  congr 1
  rw[Bool.eq_iff_iff,beq_iff_eq,decide_eq_true_eq,Lib.toList_data,Lib.toList_data]
  exact⟨bytes_ext,fun h=>by rw[h]⟩
 obtain⟨op,a,b,c,n,s⟩:=x
 obtain⟨op',a',b',c',n',s'⟩:=y
 unfold ndV
 rw[run_equalIn_agg w 9999 _ _ _ (by rw[hf];exact hu) ndStood,hf]
 simp only[Op.eqFields]
 have e:decide ((⟨op,a,b,c,n,s⟩ : Nd)=⟨op',a',b',c',n',s'⟩)=((op==op')&&(a==a')&&(b==b')&&(c==c')&&(n==n')&&decide (s=s')):=by
  rw[Bool.eq_iff_iff];simp[and_assoc]
 rw[e]
 cases h0:(op==op') <;> cases h1:(a==a') <;> cases h2:(b==b') <;> cases h3:(c==c') <;> cases h4:(n==n') <;> cases h5:decide (s=s') <;> simp[hi,hs,ndPart0,ndPart1,ndPart2,ndPart3,ndPart4,ndPart5,h0,h1,h2,h3,h4,h5,Result.andThen]
theorem blk_six {W:World} {b T:Nat} {c0 c1 c2 c3 c4 c5:Value} (h:Blk W b #[c0,c1,c2,c3,c4,c5] T) (d0 d1 d2 d3 d4 d5:Value):Blk ((((((W.setCell ⟨b,0,none⟩ d0).setCell ⟨b,1,none⟩ d1).setCell ⟨b,2,none⟩ d2).setCell ⟨b,3,none⟩ d3).setCell ⟨b,4,none⟩ d4).setCell ⟨b,5,none⟩ d5) b #[d0,d1,d2,d3,d4,d5] T:=by
 have:=(((((h.setAt 0 d0).setAt 1 d1).setAt 2 d2).setAt 3 d3).setAt 4 d4).setAt 5 d5
 simpa using this
def mostN (op:Int):Int:=if op=1 then 2147483647 else if op=2 then 1 else if op=25 then 1000 else 0
theorem nodeB_is (x:Nd):nodeB x=(decide (1≤x.op)&&decide (x.op≤28)&&decide (x=aim (leaf x.op x.n x.s) (kids x))&&decide (0≤x.n)&&decide (x.n≤mostN x.op)&&(decide (x.s≠ByteArray.empty)==(x.op==3 || x.op==27))):=by
 unfold nodeB bareB plainB mostN
 rw[Bool.eq_iff_iff]
 simp only[Bool.and_eq_true]
 constructor
 ·rintro ⟨⟨⟨h1,h2⟩,h3⟩,⟨h4,h5⟩,h6⟩;exact⟨⟨⟨⟨⟨h1,h2⟩,h3⟩,h5⟩,h6⟩,h4⟩
 ·rintro ⟨⟨⟨⟨⟨h1,h2⟩,h3⟩,h5⟩,h6⟩,h4⟩;exact⟨⟨⟨h1,h2⟩,h3⟩,⟨h4,h5⟩,h6⟩
set_option maxRecDepth 100000 in
set_option maxHeartbeats 4000000 in
theorem isNode_any (x:Nd) (w:World):Calls Tryz.prog 44 #[ndV x] w fun e w'=>e=.returned (.bool (nodeB x))∧Below w.heap.size w w':=by
 obtain⟨M,hM⟩ : ∃ M,M=mostN x.op:=⟨_,rfl⟩
 have HN:Hid (nodeB x=_):=nodeB_is x
 rw[← hM] at HN
 obtain⟨op,a,b,c,n,s⟩:=x
 unfold ndV
 simp only[] at HN hM ⊢
 have hor:((op==1)=true∧M=2147483647)∨((op==1)=false∧(op==2)=true∧M=1)∨((op==1)=false∧(op==2)=false∧(op==25)=true∧M=1000)∨((op==1)=false∧(op==2)=false∧(op==25)=false∧M=0):=by
  unfold mostN at hM
  by_cases h1:op=1
  ·exact Or.inl ⟨by simp[h1],by rw[hM,if_pos h1]⟩
  rw[if_neg h1] at hM
  by_cases h2:op=2
  ·exact Or.inr (Or.inl ⟨by simp[h1],by simp[h2],by rw[hM,if_pos h2]⟩)
  rw[if_neg h2] at hM
  by_cases h3:op=25
  ·exact Or.inr (Or.inr (Or.inl ⟨by simp[h1],by simp[h2],by simp[h3],by rw[hM,if_pos h3]⟩))
  ·exact Or.inr (Or.inr (Or.inr ⟨by simp[h1],by simp[h2],by simp[h3],by rw[hM,if_neg h3]⟩))
 have B0:Below w.heap.size w (w.alloc (.cells #[.int .i64 op,.int .i64 a,.int .i64 b,.int .i64 c,.int .i64 n,.string s] 85)):=(Below.refl _ _).alloc (Nat.le_refl _) _
 have k0:=Blk.new w #[.int .i64 op,.int .i64 a,.int .i64 b,.int .i64 c,.int .i64 n,.string s] 85
 clear hM
 go_enter Tryz.func44,Tryz.ntmps44
 go_upto_block 0 with fail
 generalize w.alloc (.cells #[.int .i64 op,.int .i64 a,.int .i64 b,.int .i64 c,.int .i64 n,.string s] 85)=W at B0 k0 ⊢
 have hsz:=B0.size
 have hlt:=k0.lt
 generalize w.heap.size=bx at k0 hlt ⊢
 go_cut [3] (fun s3 wx=>s3=.int .i64 M∧wx=W)
 case first =>
  obtain⟨k1,k2,k3,k4,k5,k6⟩:=six_cells k0
  clear k0
  rcases hor with ⟨e1,rfl⟩ | ⟨e1,e2,rfl⟩ | ⟨e1,e2,e3,rfl⟩ | ⟨e1,e2,e3,rfl⟩
  all_goals
   go_wp2_with fail
   go_meet
   exact⟨rfl,rfl⟩
 case rest =>
  obtain⟨rfl,hW⟩:=hcut
  subst hW
  have HWX:Hid (Blk wc bx #[.int .i64 op,.int .i64 a,.int .i64 b,.int .i64 c,.int .i64 n,.string s] 85):=Lib.hid k0
  clear hor
  go_upto_region 9 with fail
  obtain⟨Wo,rfl⟩ : ∃ Wo:World,Wo=wc:=⟨_,rfl⟩
  go_cut [4] (fun s4 wx=>∃ (zb:Nat) (y:Nd),s4=.pointer (some ⟨zb,0,none⟩)∧Hid (aim (leaf op n s) (kids ⟨op,a,b,c,n,s⟩)=y)∧Below Wo.heap.size Wo wx∧Blk wx zb (ndA y) 85)
  case first =>
   obtain⟨W,rfl⟩ : ∃ W:World,W=Wo:=⟨_,rfl⟩
   have HK0:=k0.six (Below.refl _ _)
   have BD:=(Below.refl W.heap.size W).drew
   have HKD:=k0.six BD
   have BA:Below W.heap.size W (W.alloc (.cells #[.int .i64 0,.int .i64 0,.int .i64 0,.int .i64 0,.int .i64 0,.string ⟨#[]⟩] 85)).drew:=((Below.refl _ _).alloc (Nat.le_refl _) _).drew
   have HKA:=k0.six BA
   have ZA0:=Lib.hid ((Blk.new W #[.int .i64 0,.int .i64 0,.int .i64 0,.int .i64 0,.int .i64 0,.string ⟨#[]⟩] 85).below ((Below.refl _ _).drew))
   have K0:=Lib.hid k0
   clear k0
   go_region_held3 (fun w'=>w'.cell? ⟨bx,0,none⟩=some (.int .i64 op)∧w'.cell? ⟨bx,1,none⟩=some (.int .i64 a)∧w'.cell? ⟨bx,2,none⟩=some (.int .i64 b)∧w'.cell? ⟨bx,3,none⟩=some (.int .i64 c)∧w'.cell? ⟨bx,4,none⟩=some (.int .i64 n)∧w'.cell? ⟨bx,5,none⟩=some (.string s))
    (with_reducible first | exact Blk.six K0.out (below_six HBB hbz) | exact HKD | exact HK0 | exact HKA | exact HK1 | exact Blk.six K0.out (below_next HBA ((Below.refl _ _).alloc (Nat.le_refl _) _)) | exact HK2 | exact Blk.six K0.out (below_next HBB ((Below.refl _ _).alloc (Nat.le_refl _) _)) | fail)
    (first
     | (go_at_call 70;(with_reducible refine (with_parts ⟨op,-1,-1,-1,n,s⟩ _ (kids_len ⟨op,a,b,c,n,s⟩) v wA hrA.sl).mono ?_);rintro e wB ⟨o',a',b',c',n',s',rfl,hy,hbB⟩;have HBB:=below_next HBA hbB;have HK2:=Blk.six K0.out HBB;have ZB:=Lib.hid (Blk.below ZA hbB);have hbz:=Nat.le_refl W.heap.size;obtain⟨z0,z1,z2,z3,z4,z5⟩:=six_cells ZB.out;obtain⟨y0,y1,y2,y3,y4,y5⟩:=six_free ZB.out)
     | (go_at_call 70;(with_reducible refine (with_parts ⟨op,-1,-1,-1,n,s⟩ _ (kids_len ⟨op,a,b,c,n,s⟩) v wA hrA.sl).mono ?_);rintro e wB ⟨o',a',b',c',n',s',rfl,hy,hbB⟩;have HBB:=below_next HBA hbB;have HK2:=Blk.six K0.out HBB)
     | (go_at_call 70;(with_reducible refine (with_parts ⟨op,-1,-1,-1,n,s⟩ _ (kids_len ⟨op,a,b,c,n,s⟩) v (wA.alloc (.cells #[.int .i64 0,.int .i64 0,.int .i64 0,.int .i64 0,.int .i64 0,.string ⟨#[]⟩] 85)) (hrA.sl.below ((Below.refl _ _).alloc (Nat.le_refl _) _))).mono ?_);rintro e wB ⟨o',a',b',c',n',s',rfl,hy,hbB⟩;have HBB:=below_next (below_next HBA ((Below.refl _ _).alloc (Nat.le_refl _) _)) hbB;have HK2:=Blk.six K0.out HBB;have ZB:=Lib.hid (Blk.below (Blk.new wA #[.int .i64 0,.int .i64 0,.int .i64 0,.int .i64 0,.int .i64 0,.string ⟨#[]⟩] 85) hbB);have hbz:=HBA.size;obtain⟨z0,z1,z2,z3,z4,z5⟩:=six_cells ZB.out;obtain⟨y0,y1,y2,y3,y4,y5⟩:=six_free ZB.out)
     | (go_at_call 45;(with_reducible refine (Kids_any ⟨op,a,b,c,n,s⟩ W.drew).mono ?_);rintro e wA ⟨v,rfl,hrA,hbA⟩;have HBA:=below_next BD hbA;have HK1:=Blk.six K0.out HBA)
     | (go_at_call 45;(with_reducible refine (Kids_any ⟨op,a,b,c,n,s⟩ (W.alloc (.cells #[.int .i64 0,.int .i64 0,.int .i64 0,.int .i64 0,.int .i64 0,.string ⟨#[]⟩] 85)).drew).mono ?_);rintro e wA ⟨v,rfl,hrA,hbA⟩;have HBA:=below_next BA hbA;have HK1:=Blk.six K0.out HBA;have ZA:=Lib.hid (Blk.below ZA0.out hbA))
     | fail)
   ·go_wp2_with fail
    go_meet
    exact⟨_,⟨o',a',b',c',n',s'⟩,rfl,hy,below_next HBB ((Below.refl _ _).alloc (Nat.le_refl _) _),Blk.new _ _ _⟩
   ·go_wp2_with fail
    go_meet
    exact⟨_,⟨o',a',b',c',n',s'⟩,rfl,hy,below_six HBB hbz,blk_six ZB.out _ _ _ _ _ _⟩
   ·go_wp2_with fail
    go_meet
    exact⟨_,⟨o',a',b',c',n',s'⟩,rfl,hy,below_six HBB hbz,blk_six ZB.out _ _ _ _ _ _⟩
  case rest =>
   obtain⟨zb,y,rfl,hy,hb,hk⟩:=hcut
   have B1:=below_next B0 hb
   have kx:=k0.below hb
   obtain⟨x0,x1,x2,x3,x4,x5⟩:=six_cells kx
   obtain⟨z0,z1,z2,z3,z4,z5⟩:=six_cells hk
   clear k0 hk kx hb B0 hsz hlt HWX
   obtain⟨q,hq⟩ : ∃ q,q=decide ((⟨op,a,b,c,n,s⟩ : Nd)=y):=⟨_,rfl⟩
   have HEQ:∀ W,(Op.equalIn 10000 85 (.agg #[.int .i64 op,.int .i64 a,.int .i64 b,.int .i64 c,.int .i64 n,.string s]) (.agg #[.int .i64 y.op,.int .i64 y.a,.int .i64 y.b,.int .i64 y.c,.int .i64 y.n,.string y.s])).run Tryz.prog W=.ok q W:=fun W=>by rw[hq];exact eqNd ⟨op,a,b,c,n,s⟩ y W
   obtain⟨nm,hnm⟩ : ∃ nm,nm=(op==3 || op==27):=⟨_,rfl⟩
   have hor:((op==3)=true∧nm=true)∨((op==3)=false∧(op==27)=true∧nm=true)∨((op==3)=false∧(op==27)=false∧nm=false):=by
    rw[hnm];cases (op==3) <;> cases (op==27) <;> simp
   obtain⟨se,hse⟩ : ∃ se,s.toList.isEmpty=se:=⟨_,rfl⟩
   have hse2:decide (s≠ByteArray.empty) = !se:=by
    rw[← hse,Bool.eq_iff_iff]
    simp only[decide_eq_true_eq,Bool.not_eq_true',List.isEmpty_eq_false_iff,ne_eq]
    refine not_congr ?_
    rw[Lib.toList_data]
    exact⟨fun h=>by rw[h];rfl,fun h=>bytes_ext (by rw[h];rfl)⟩
   have HF:Hid (nodeB ⟨op,a,b,c,n,s⟩=(decide (1≤op)&&decide (op≤28)&&q&&decide (0≤n)&&decide (n≤M)&&((!se)==nm))):=by
    show _=_
    rw[HN.out,hq,hnm,← hse2,← hy.out]
   clear HN hq hnm hse2 hy
   obtain⟨W,rfl⟩ : ∃ W:World,W=wc:=⟨_,rfl⟩
   go_upto_region 10 with fail
   go_cut [5] (fun s5 wx=>s5=.bool nm∧wx=W)
   case first =>
    rcases hor with ⟨e1,rfl⟩ | ⟨e1,e2,rfl⟩ | ⟨e1,e2,rfl⟩
    all_goals
     go_wp2_with fail
     go_meet
     exact⟨rfl,rfl⟩
   case rest =>
    obtain⟨rfl,hW⟩:=hcut
    subst hW
    clear hor
    by_cases c1:1≤op
    ·by_cases c2:op≤28
     ·cases q
      ·go_wp2_with fail
       go_ret
       exact⟨ret_bool (by rw[HF.out];simp),B1⟩
      ·by_cases c3:0≤n
       ·by_cases c4:n≤M
        ·cases se <;> cases nm
         all_goals
          go_wp2_with fail
          go_ret
          exact⟨ret_bool (by rw[HF.out];simp[c1,c2,c3,c4]),B1⟩
        ·have C:Hid (decide (n≤M)=false):=by show _=_;simp;omega
         go_wp2_with fail
         go_ret
         exact⟨ret_bool (by rw[HF.out,C.out];simp),B1⟩
       ·have C:Hid (decide (0≤n)=false):=by show _=_;simp;omega
        go_wp2_with fail
        go_ret
        exact⟨ret_bool (by rw[HF.out,C.out];simp),B1⟩
     ·have C:Hid (decide (op≤28)=false):=by show _=_;simp;omega
      go_wp2_with fail
      go_ret
      exact⟨ret_bool (by rw[HF.out,C.out];simp),B1⟩
    ·have C:Hid (decide (1≤op)=false):=by show _=_;simp;omega
     go_wp2_with fail
     go_ret
     exact⟨ret_bool (by rw[HF.out,C.out];simp),B1⟩
end Go.Proofs.YtmacepicoandkaaGreatDoor
namespace Go.Proofs.YtmacepicoandkaaGreatDoor
open Go.RowKit Go.Shelf Tx
def RowL {α:Type} (f:α→Value) (T base:Nat) (w:World) (g n:Nat) (L:List α):Prop:=w.ownsRow base T 1 (.slice (some ⟨g,0,none⟩) n n) n (L.map f)
section
variable {α : Type} {f : α → Value} {T base g n : Nat} {w w' : World} {L : List α}
theorem RowL.len (h:RowL f T base w g n L):L.length=n:=by
 have:=h.1;simpa using this
theorem RowL.cell (h:RowL f T base w g n L) {j:Nat} {x:α} (hx:L[j]?=some x):w.cell? ⟨g,j,none⟩=some (f x):=by
 have hj:=(List.getElem?_eq_some_iff.1 hx).1
 have hn:=h.len
 have:=World.ownsRow.cellAt h j (by omega)
 rw[this];simp[hx]
theorem RowL.free (h:RowL f T base w g n L) (j:Nat):w.frozen? ⟨g,j,none⟩=false:=World.ownsRow.frozenAt h j
theorem RowL.set (h:RowL f T base w g n L) (j:Nat) (y:α):RowL f T base (w.setCell ⟨g,j,none⟩ (f y)) g n (L.set j y):=by
 have:=(World.ownsRow.stored h j (f y)).1
 unfold RowL;rw[List.map_set];exact this
theorem RowL.below (h:RowL f T base w g n L) (hb:Below w.heap.size w w'):RowL f T base w' g n L:=below_row hb h
theorem RowL.drawn (h:RowL f T base w g n L) (k:Nat):RowL f T base (w.drewN k) g n L:=h
theorem RowL.lt (h:RowL f T base w g n L):base≤g∧g<w.heap.size:=by
 have:=World.ownsRow.lt h g rfl;exact this
theorem RowL.sl {enc:α→List Value} (he:∀ x,enc x=[f x]) (h:RowL f T base w g n L):Sl enc 1 w (.slice (some ⟨g,0,none⟩) n n) L:=by
 have hn:=h.len
 refine Or.inr ⟨g,0,n,by rw[hn],by omega,h.lt.2,fun i x hi j u hu=>?_⟩
 rw[he] at hu
 cases j with
 | succ j=>simp at hu
 | zero =>
  simp at hu;subst hu
  have:=h.cell hi
  simpa using this
end
theorem below_set {base:Nat} {a w:World} {g j:Nat} {v:Value} (h:Below base a w) (hg:base≤g):Below base a (w.setCell ⟨g,j,none⟩ v):=h.setCell hg _
theorem infoI:(Tryz.prog.info? 3).map (fun i=>(i.zero,i.size,i.bytes))=some (some (.int .i64 0),1,8):=by kernel_rfl
theorem infoB:(Tryz.prog.info? 4).map (fun i=>(i.zero,i.size,i.bytes))=some (some (.bool false),1,1):=by kernel_rfl
abbrev vI (n:Int):Value:=.int .i64 n
abbrev vB (b:Bool):Value:=.bool b
structure DepRow (d:List Nat) (i:Nat) (m:Nat) (L:List Int):Prop where
 old:∀ j x,j<i→d[j]?=some x→L[j]?=some (x:Int)
 now:i<L.length→L[i]?=some (m:Int)
 new:∀ j,i<j→j<L.length→L[j]?=some 0
theorem DepRow.start (d:List Nat) (n:Nat):DepRow d 0 0 (List.replicate n 0) :=
 ⟨fun j x h=>by omega,fun h=>by simp at h;rw[List.getElem?_replicate,if_pos h];rfl,fun j _ h=>by simp at h;rw[List.getElem?_replicate,if_pos h]⟩
theorem DepRow.raise {d:List Nat} {i m:Nat} {L:List Int} (h:DepRow d i m L) (m':Nat):DepRow d i m' (L.set i (m':Int)):=by
 refine⟨fun j x hj hx=>?_,fun hi=>?_,fun j hj hl=>?_⟩
 ·rw[List.getElem?_set,if_neg (by omega)];exact h.old j x hj hx
 ·simp at hi;rw[List.getElem?_set,if_pos rfl,if_pos hi]
 ·simp at hl;rw[List.getElem?_set,if_neg (by omega)];exact h.new j hj hl
theorem DepRow.next {d:List Nat} {i m:Nat} {L:List Int} (h:DepRow d i m L) (hi:i<L.length) (hd:d[i]?=some m):DepRow d (i+1) 0 L:=by
 refine⟨fun j x hj hx=>?_,fun hl=>h.new _ (by omega) hl,fun j hj hl=>h.new j (by omega) hl⟩
 by_cases e:j=i
 ·subst e;rw[hd] at hx;cases hx;exact h.now hi
 ·exact h.old j x (by omega) hx
theorem DepRow.done {d:List Nat} {n m:Nat} {L:List Int} (h:DepRow d n m L) (hd:d.length=n) (hL:L.length=n):L=d.map Int.ofNat:=by
 apply List.ext_getElem?
 intro j
 rw[List.getElem?_map]
 rcases Nat.lt_or_ge j n with hj | hj
 ·rw[List.getElem?_eq_getElem (l:=d) (by omega)]
  exact h.old j _ hj (List.getElem?_eq_getElem (by omega))
 ·rw[List.getElem?_eq_none (by omega),List.getElem?_eq_none (by omega)];rfl
def kidMax (d:List Nat) (i:Nat) (l:List Int):Nat:=l.foldl (fun (m:Nat) (k:Int)=>if 0≤k∧k<(i:Int) then max m (d.getD k.toNat 0) else m) 0
theorem deps_at {e:List Nd} {i:Nat} {x:Nd} (h:e[i]?=some x):(deps e)[i]?=some (kidMax (deps e) i (kids x)+1):=by
 obtain⟨he,hl⟩:=split_get h
 have e1:e=(e.take i++[x])++e.drop (i+1):=by rw[List.append_assoc];exact he
 have h1:(deps e)[i]?=(deps (e.take i++[x]))[i]?:=by
  conv=>lhs;rw[e1]
  exact deps_app _ _ i (by simp[hl])
 rw[h1,deps_snoc,List.getElem?_append_right (by rw[deps_len,hl];exact Nat.le_refl _),deps_len,hl]
 simp only[Nat.sub_self,List.getElem?_cons_zero,Option.some.injEq]
 unfold depOf kidMax
 rw[deps_len,hl]
 congr 1
 apply foldl_same
 intro m k _
 by_cases hk:0≤k∧k<(i:Int)
 ·rw[if_pos hk,if_pos hk]
  have:(deps (e.take i)).getD k.toNat 0=(deps e).getD k.toNat 0:=by
   rw[List.getD_eq_getElem?_getD,List.getD_eq_getElem?_getD]
   conv=>rhs;rw[he]
   rw[deps_app (e.take i) _ k.toNat (by omega)]
  rw[this]
 ·rw[if_neg hk,if_neg hk]
theorem kidMax_snoc (d:List Nat) (i:Nat) (l:List Int) (k:Int):kidMax d i (l++[k])=if 0≤k∧k<(i:Int) then max (kidMax d i l) (d.getD k.toNat 0) else kidMax d i l:=by
 unfold kidMax;rw[List.foldl_append];rfl
theorem take_at {α:Type} {l:List α} {k:Nat} {x:α} (h:l[k]?=some x):l.take (k+1)=l.take k++[x]:=by rw[List.take_add_one,h];rfl
theorem deps_le (e:List Nd):∀ j x,(deps e)[j]?=some x→x≤j+1:=by
 intro j
 induction j using Nat.strongRecOn with
 | _ j ih =>
  intro x hx
  have hj:=(List.getElem?_eq_some_iff.1 hx).1
  rw[deps_len] at hj
  rw[deps_at (List.getElem?_eq_getElem hj)] at hx
  simp only[Option.some.injEq] at hx
  have:∀ l:List Int,kidMax (deps e) j l≤j:=by
   intro l
   induction l using snoc_ind with
   | h0=>exact Nat.zero_le _
   | h1 l k ihl =>
    rw[kidMax_snoc]
    split
    ·rename_i hk
     have h2:=ih k.toNat (by omega)
     rw[List.getD_eq_getElem?_getD]
     cases hq:(deps e)[k.toNat]? with
     | none=>simp;exact ihl
     | some y=>have:=h2 y hq;simp;omega
    ·exact ihl
  have:=this (kids e[j])
  omega
set_option maxRecDepth 100000 in
set_option maxHeartbeats 4000000 in
theorem depths_any (e:List Nd) (v:Value) (w:World) (he:e.length≤5000) (hv:IsE w v e) :
  Calls Tryz.prog 72 #[v] w fun r w'=>∃ g,r=.returned (.slice (some ⟨g,0,none⟩) e.length e.length)∧RowL vI 3 w.heap.size w' g e.length ((deps e).map Int.ofNat)∧Below w.heap.size w w':=by
 obtain⟨a,c,rfl,hc,hx⟩:=hv.form
 obtain⟨i0,hi,hz0,hz1,hz2⟩:=info_parts infoI
 obtain⟨n,hn⟩ : ∃ n,n=e.length:=⟨_,rfl⟩
 rw[← hn] at hc he ⊢
 have HN:Hid (n=e.length):=hn
 have HX:Hid (∀ W,Below w.heap.size w W→∀ i x,e[i]?=some x→∃ b o,a=some ⟨b,o,none⟩∧∀ j u,(ndL x)[j]?=some u→W.cell? ⟨b,o+i * 6+j,none⟩=some u):=hx
 clear hn hx hv
 go_enter Tryz.func72,Tryz.ntmps72
 go_wp2_with (at_make;refine wpList_make_full _ rfl _ _ 83 rfl w.heap.size 3 i0 (.int .i64 0) 1 Tryz.underlying83 hi hz0 hz1 _ _ _ _ n rfl rfl rfl rfl ?_ ?_ ?_ ?_;rotate_right;intro w2 hown2 hgrow2)
 case refine_1=>rw[hz2];omega
 case refine_2=>unfold maxLen;omega
 case refine_3=>exact Nat.le_refl _
 have hB2:Below w.heap.size w w2:=(Below.refl _ _).grown hgrow2 (Nat.le_refl _) (by simp)
 have hR2:RowL vI 3 w.heap.size w2 w.heap.size n (List.replicate n 0):=by
  unfold RowL
  have:=hown2
  simp only[Value.cells,Nat.mul_one,toList_madeCells_one] at this
  simpa using this
 clear hown2 hgrow2 hi hz0 hz1 hz2
 obtain⟨bx,hbx⟩ : ∃ bx,bx=w.heap.size:=⟨_,rfl⟩
 rw[← hbx] at hB2 hR2 ⊢
 have HBX:Hid (bx=w.heap.size):=hbx
 clear hbx
 go_loopw [13] (fun i wr=>∃ (k:Nat) (L:List Int),i=.int .i64 k∧k≤n∧RowL vI 3 bx wr bx n L∧DepRow (deps e) k 0 L∧Below bx w wr) (fun i _=>n - (intOf i).toNat)
 case atStart=>exact⟨0,_,rfl,Nat.zero_le _,hR2,DepRow.start _ _,hB2⟩
 case round =>
  obtain⟨k,L,rfl,hk,hR,hD,hB⟩:=hrel
  clear hB2 hR2
  by_cases hlt:k<n
  ·obtain⟨x,hx⟩ : ∃ x,e[k]?=some x:=⟨_,List.getElem?_eq_getElem (by have:=HN.out;omega)⟩
   obtain⟨b,o,rfl,hcell⟩:=HX.out wr (by rw[← HBX.out];exact hB) k x hx
   obtain⟨c0,c1,c2,c3,c4,c5⟩:=nd_cells hcell
   have HXX:=Lib.hid hx
   have hkn:(k:Int)<(n:Int):=by omega
   have hk0:(0:Int)≤(k:Int):=by omega
   clear hx hcell
   go_wp2_with fail
   refine (Kids_any x _).mono ?_
   rintro r w1 ⟨kv,rfl,hkr0,hb1⟩
   have nb:=(Below.refl wr.heap.size wr).alloc (Nat.le_refl _) (.cells (ndA x) 85)
   have hb2:=below_next nb hb1
   have hR1:=hR.below hb2
   have hltb:=hR.lt.2
   have hB1:Below bx w w1:=hB.trans (hb2.mono (by omega))
   have hkr:=hkr0.mono (b2:=bx+1) (by simp;omega)
   clear hkr0 c0 c1 c2 c3 c4 c5 hR hB nb hb2 hb1
   obtain⟨ka,kc,rfl,hkc⟩:=hkr.form
   obtain⟨kn,hkn2⟩ : ∃ kn,kn=(kids x).length:=⟨_,rfl⟩
   have h3:=kids_len x
   rw[← hkn2] at hkr hkc h3 ⊢
   have HKN:=Lib.hid hkn2
   clear hkn2
   go_wp2_with fail
   obtain⟨wo,rfl⟩ : ∃ wo:World,wo=wr:=⟨_,rfl⟩
   go_loopw [21] (fun i wr=>∃ (t:Nat) (L:List Int),i=.int .i64 t∧t≤kn∧RowL vI 3 bx wr bx n L∧DepRow (deps e) k (kidMax (deps e) k ((kids x).take t)) L∧Below bx w wr∧RowI (bx+1) wr (.slice ka kn kc) (kids x)) (fun i _=>kn - (intOf i).toNat)
   case atStart=>exact⟨0,L,rfl,Nat.zero_le _,hR1,hD,hB1,hkr⟩
   case round =>
    obtain⟨t,L,rfl,ht,hR,hD,hB,hkr⟩:=hrel
    clear hR1 hB1
    by_cases hlt2:t<kn
    ·obtain⟨y,hy⟩ : ∃ y,(kids x)[t]?=some y:=⟨_,List.getElem?_eq_getElem (by have:=HKN.out;omega)⟩
     obtain⟨g,rfl,hg1,hg2,cy,-⟩:=hkr.at hy
     have HS:Hid (kidMax (deps e) k ((kids x).take (t+1))=if 0≤y∧y<(k:Int) then max (kidMax (deps e) k ((kids x).take t)) ((deps e).getD y.toNat 0) else kidMax (deps e) k ((kids x).take t)):=by
      show _=_;rw[take_at hy,kidMax_snoc]
     have htk:(t:Int)<(kn:Int):=by omega
     have ht0:(0:Int)≤(t:Int):=by omega
     clear hy
     have HR:=Lib.hid hR
     have HD:=Lib.hid hD
     by_cases hyr:0≤y∧y<(k:Int)
     ·have HS2:Hid (kidMax (deps e) k ((kids x).take (t+1))=max (kidMax (deps e) k ((kids x).take t)) ((deps e).getD y.toNat 0)):=by show _=_;rw[HS.out,if_pos hyr]
      obtain⟨hy0,hyk⟩:=hyr
      obtain⟨j,rfl⟩ : ∃ j:Nat,y=(j:Int):=⟨y.toNat,by omega⟩
      have hlL:=hR.len
      obtain⟨dj,hdj⟩ : ∃ dj,(deps e)[j]?=some dj:=⟨_,List.getElem?_eq_getElem (by rw[deps_len];have:=HN.out;omega)⟩
      have HDJ:Hid ((deps e).getD (j:Int).toNat 0=dj):=by show _=_;rw[List.getD_eq_getElem?_getD,show (j:Int).toNat=j by omega,hdj];rfl
      have cj:=hR.cell (hD.old j dj (by omega) hdj)
      have ck:=hR.cell (hD.now (by omega))
      have fk:=hR.free k
      obtain⟨m,hm⟩ : ∃ m,m=kidMax (deps e) k ((kids x).take t):=⟨_,rfl⟩
      rw[← hm] at ck
      have HM:=Lib.hid hm
      have hmax:∀ (ts:Array TypeId) (t':TypeId) (W:World),(Builtin.max_ ts t' #[.int .i64 (m:Int),.int .i64 (dj:Int)]).run Tryz.prog W=.ok (.int .i64 ((max m dj:Nat):Int)) W:=fun ts t' W=>by
       rw[run_max_int2];congr 2;split <;> omega
      have hjn:(j:Int)<(n:Int):=by omega
      have HKR:=Lib.hid hkr
      clear hm hdj hlL hR hD hkr
      go_wp2_with fail
      go_region
      go_wp2_with fail
      go_roundw
      case rel =>
       refine⟨t+1,L.set k ((max m dj:Nat):Int),by go_num,by omega,HR.out.set k _,?_,(below_set hB (Nat.le_refl _)).drew,HKR.out.other (by omega) _ _⟩
       rw[HS2.out,← HM.out,HDJ.out]
       exact HD.out.raise _
      case measure=>simp[intOf];omega
     ·have HS2:Hid (kidMax (deps e) k ((kids x).take (t+1))=kidMax (deps e) k ((kids x).take t)):=by show _=_;rw[HS.out,if_neg hyr]
      have HKR:=Lib.hid hkr
      have hor:¬ (0:Int)≤y∨((0:Int)≤y∧¬ y<(k:Int)):=by omega
      clear hyr hR hD hkr
      rcases hor with h1 | ⟨h1,h2⟩
      all_goals
       go_wp2_with fail
       go_roundw
       case rel=>exact⟨t+1,L,by go_num,by omega,HR.out,by rw[HS2.out];exact HD.out,hB,HKR.out⟩
       case measure=>simp[intOf];omega
    ·have hte:t=kn:=by omega
     subst hte
     have hlL:=hR.len
     have hfull:(kids x).take t=kids x:=List.take_of_length_le (by have:=HKN.out;omega)
     rw[hfull] at hD
     obtain⟨m,hm⟩ : ∃ m,m=kidMax (deps e) k (kids x):=⟨_,rfl⟩
     rw[← hm] at hD
     have hda:=deps_at HXX.out
     rw[← hm] at hda
     have hmle:=deps_le e k _ hda
     have HDA:=Lib.hid hda
     have ck:=hR.cell (hD.now (by omega))
     have fk:=hR.free k
     have hmz:(m:Int)≤5000:=by omega
     have hm0:(0:Int)≤(m:Int):=by omega
     have HR:=Lib.hid hR
     have HD:=Lib.hid hD
     have HL:=Lib.hid hlL
     clear hm hda hR hD hkr hfull hlL
     go_wp2_with fail
     go_roundw
     case rel =>
      refine⟨k+1,L.set k ((m+1:Nat):Int),by go_num,by omega,HR.out.set k _,?_,below_set hB (Nat.le_refl _)⟩
      exact (HD.out.raise (m+1)).next (by rw[List.length_set];have:=HL.out;omega) HDA.out
     case measure=>simp[intOf];omega
  ·have hke:k=n:=by omega
   subst hke
   have hlL:=hR.len
   have HL:Hid (L=(deps e).map Int.ofNat):=hD.done (by rw[deps_len];exact HN.out.symm) hlL
   have HR:=Lib.hid hR
   clear hD hlL hR
   go_wp2_with fail
   go_ret
   exact⟨bx,rfl,by rw[← HL.out,← HBX.out];exact HR.out,by rw[← HBX.out];exact hB⟩
set_option maxHeartbeats 1000000 in
theorem Depth_any (e:List Nd) (v:Value) (w:World) (he:e.length≤5000) (hv:IsE w v e) :
  Calls Tryz.prog 47 #[v] w fun r w'=>r=.returned (.int .i64 (depL e))∧Below w.heap.size w w':=by
 obtain⟨a,c,rfl,hc,hx⟩:=hv.form
 obtain⟨n,hn⟩ : ∃ n,n=e.length:=⟨_,rfl⟩
 have hd:=depths_any e _ w he hv
 rw[← hn] at hc he hd ⊢
 by_cases h0:n=0
 ·have HD:Hid (depL e=0):=by
   show _=_
   have:e=[]:=List.eq_nil_of_length_eq_zero (by omega)
   rw[this];rfl
  subst h0
  clear hn hx hv hd
  go_enter Tryz.func47,Tryz.ntmps47
  go_wp2_with fail
  go_ret
  exact⟨by rw[HD.out];rfl,Below.refl _ _⟩
 ·have e0:((n:Int)==0)=false:=by rw[beq_eq_false_iff_ne];omega
  have hn1:(0:Int)≤(n:Int) - 1:=by omega
  have hn2:(1:Int)≤(n:Int):=by omega
  have hl:(deps e)[n - 1]?=some (depL e):=by
   unfold depL
   have h1:(deps e).length=n:=by rw[deps_len,hn]
   rw[List.getLastD_eq_getLast?,List.getLast?_eq_getElem?,h1]
   obtain⟨y,hy⟩ : ∃ y,(deps e)[n - 1]?=some y:=⟨_,List.getElem?_eq_getElem (by omega)⟩
   rw[hy];rfl
  have HL:Hid (((deps e).map Int.ofNat)[n - 1]?=some (depL e:Int)):=by show _=_;rw[List.getElem?_map,hl];rfl
  have ht:((n:Int) - 1).toNat=n - 1:=by omega
  clear hn hx hv hl h0
  go_enter Tryz.func47,Tryz.ntmps47
  go_wp2_with fail
  refine hd.mono ?_
  rintro r w1 ⟨g,rfl,hR,hb⟩
  have cl:=hR.cell HL.out
  clear hR hd
  go_wp2_with fail
  go_ret
  exact⟨rfl,hb⟩
end Go.Proofs.YtmacepicoandkaaGreatDoor
namespace Go.Proofs.YtmacepicoandkaaGreatDoor
open Go.RowKit Go.Shelf Tx
def boolC (b:Bool):List Value:=[.bool b]
theorem ret_bool' {a b:Bool} (h:a=b):Ending.returned (.bool a)=.returned (.bool b):=by rw[h]
set_option maxHeartbeats 400000 in
theorem indexB_any (L:List Bool) (v:Value) (b:Bool) (w:World) (hl:L.length≤1000000) (hv:Sl boolC 1 w v L) :
  Calls Tryz.prog 71 #[v,.bool b] w fun r w'=>∃ n:Int,r=.returned (.int .i64 n)∧(decide (0≤n)=L.contains b)∧w'=w:=by
 obtain⟨a,c,rfl,hc,hx⟩:=hv.form
 obtain⟨n,hn⟩ : ∃ n,n=L.length:=⟨_,rfl⟩
 rw[← hn] at hc hl ⊢
 have HN:=Lib.hid hn
 clear hn hv
 go_enter Tryz.func71,Tryz.ntmps71
 go_wp2_with fail
 go_loopw [8] (fun i wr=>∃ k:Nat,i=.int .i64 k∧k≤n∧(L.take k).contains b=false∧wr=w) (fun i _=>n - (intOf i).toNat)
 case atStart=>exact⟨0,rfl,Nat.zero_le _,rfl,rfl⟩
 case round =>
  obtain⟨k,rfl,hk,hno,hW⟩:=hrel
  subst hW
  by_cases hlt:k<n
  ·obtain⟨x,hi⟩ : ∃ x,L[k]?=some x:=⟨_,List.getElem?_eq_getElem (by have:=HN.out;omega)⟩
   obtain⟨xb,xo,rfl,g⟩:=hx wr (Below.refl _ _) k x hi
   have cx:=g 0 _ rfl
   simp only[Nat.mul_one,Nat.add_zero] at cx
   have hkn:(k:Int)<(n:Int):=by omega
   have hk0:(0:Int)≤(k:Int):=by omega
   have HI:=Lib.hid hi
   have HNO:Hid ((L.take (k+1)).contains b=(x==b)):=by
    show _=_
    rw[take_at hi,Bool.eq_iff_iff]
    have h1:b ∉ L.take k:=fun hm=>by rw[← List.contains_iff_mem,hno] at hm;cases hm
    simp only[List.contains_iff_mem,List.mem_append,List.mem_singleton,beq_iff_eq]
    exact⟨fun h=>h.elim (fun q=>absurd q h1) (fun q=>q.symm),fun h=>Or.inr h.symm⟩
   clear hx g hi hno
   by_cases he:x=b
   ·subst he
    have hmem:Hid (L.contains x=true):=by
     show _=_;rw[List.contains_iff_mem];exact List.mem_of_getElem? HI.out
    have e1:(x==x)=true:=by cases x <;> rfl
    go_wp2_with fail
    go_ret
    exact⟨_,rfl,by rw[hmem.out];simp,rfl⟩
   ·have e1:(b==x)=false:=by rw[beq_eq_false_iff_ne];exact fun h=>he h.symm
    have HF:Hid ((L.take (k+1)).contains b=false):=by show _=_;rw[HNO.out,beq_eq_false_iff_ne];exact he
    clear he
    go_wp2_with fail
    go_roundw
    case rel=>exact⟨k+1,by go_num,by omega,HF.out,by trivial⟩
    case measure=>simp[intOf];omega
  ·have hke:k=n:=by omega
   subst hke
   have HF:Hid (L.contains b=false):=by
    show _=_
    rwa [List.take_of_length_le (by have:=HN.out;omega)] at hno
   clear hno hx
   go_wp2_with fail
   go_ret
   exact⟨-1,rfl,by rw[HF.out];rfl,rfl⟩
theorem containsB_any (L:List Bool) (v:Value) (b:Bool) (w:World) (hl:L.length≤1000000) (hv:Sl boolC 1 w v L) :
  Calls Tryz.prog 46 #[v,.bool b] w fun r w'=>r=.returned (.bool (L.contains b))∧w'=w:=by
 have HI:=indexB_any L v b w hl hv
 go_enter Tryz.func46,Tryz.ntmps46
 go_wp2_with fail
 refine HI.mono ?_
 rintro r w1 ⟨n,rfl,hn,rfl⟩
 clear HI
 have HN:=Lib.hid hn
 clear hn
 go_wp2_with fail
 go_ret
 exact⟨ret_bool HN.out,rfl⟩
def argWant (x:Nd) (t:Nat):Bool:=x.op==27 || (x.op==28&&x.b != -1&&t==0)
theorem argsOk_iff (e:List Nd) (x:Nd):argsOk e x=true ↔ ∀ (t:Nat) (k:Int),(kids x)[t]?=some k→((e.getD k.toNat dft).op==28)=argWant x t:=by
 have key:∀ l:List Int,(l.all (fun p=>p==28)=true ↔ ∀ (t:Nat) (p:Int),l[t]?=some p→(p==28)=true)∧(l.all (fun p=>p != 28)=true ↔ ∀ (t:Nat) (p:Int),l[t]?=some p→(p==28)=false):=by
  intro l
  refine⟨⟨fun h t p hp=>List.all_eq_true.1 h p (List.mem_of_getElem? hp),fun h=>List.all_eq_true.2 fun p hp=>?_⟩,⟨fun h t p hp=>?_,fun h=>List.all_eq_true.2 fun p hp=>?_⟩⟩
  ·obtain⟨t,ht⟩:=List.getElem?_of_mem hp;exact h t p ht
  ·have:=List.all_eq_true.1 h p (List.mem_of_getElem? hp);simpa using this
  ·obtain⟨t,ht⟩:=List.getElem?_of_mem hp;have:=h t p ht;simpa using this
 have hmap:∀ (Q:Nat→Int→Prop),(∀ (t:Nat) (p:Int),((kids x).map fun k=>(e.getD k.toNat dft).op)[t]?=some p→Q t p) ↔ ∀ (t:Nat) (k:Int),(kids x)[t]?=some k→Q t (e.getD k.toNat dft).op:=by
  intro Q
  constructor
  ·intro h t k hk;exact h t _ (by rw[List.getElem?_map,hk];rfl)
  ·intro h t p hp
   rw[List.getElem?_map] at hp
   obtain⟨k,hk,rfl⟩:=Option.map_eq_some_iff.1 hp
   exact h t k hk
 unfold argsOk
 by_cases h27:x.op=27
 ·have e1:∀ t,argWant x t=true:=fun t=>by simp[argWant,h27]
  simp only[argsB,if_pos h27,(key _).1,e1]
  exact hmap (fun _ p=>(p==28)=true)
 by_cases h28:x.op=28
 ·by_cases hb:x.b = -1
  ·have e1:∀ t,argWant x t=false:=fun t=>by simp[argWant,h27,hb]
   have hk:kids x=[x.a]:=by unfold kids;rw[if_neg (by omega),if_pos h28,if_pos hb]
   simp only[argsB,if_neg h27,if_pos h28,e1]
   rw[hk]
   simp only[List.map_cons,List.map_nil,List.all_cons,List.all_nil,Bool.and_true]
   constructor
   ·intro h t k hk
    cases t with
    | zero=>simp at hk;subst hk;simpa using h
    | succ t=>simp at hk
   ·intro h;have:=h 0 x.a rfl;simpa using this
  ·have hk:kids x=[x.b,x.a]:=by unfold kids;rw[if_neg (by omega),if_pos h28,if_neg hb]
   have e1:argWant x 0=true:=by simp[argWant,h28,hb]
   have e2:∀ t,argWant x (t+1)=false:=fun t=>by simp[argWant,h27]
   simp only[argsB,if_neg h27,if_pos h28]
   rw[hk]
   simp only[List.map_cons,List.map_nil,Bool.and_eq_true,bne_iff_ne]
   constructor
   ·rintro ⟨h1,h2⟩ t k hk
    match t with
    | 0=>simp at hk;subst hk;rw[e1];exact h1
    | 1=>simp at hk;subst hk;rw[e2];simpa using h2
    | t+2=>simp at hk
   ·intro h
    have h1:=h 0 x.b rfl
    have h2:=h 1 x.a rfl
    rw[e1] at h1
    rw[e2] at h2
    exact⟨h1,by simpa using h2⟩
 ·have e1:∀ t,argWant x t=false:=fun t=>by simp[argWant,h27,h28]
  simp only[argsB,if_neg h27,if_neg h28,(key _).2,e1]
  exact hmap (fun _ p=>(p==28)=false)
structure MayLp (e:List Nd) (i:Nat) (P:List Int) (U:List Bool):Prop where
 ok:∀ j x,j<i→e[j]?=some x→nodeB x=true∧inR x j∧argsOk e x=true
 nodup:P.Nodup
 mark:∀ j,j<U.length→U[j]?=some (decide ((j:Int)∈P))
theorem MayLp.start (e:List Nd):MayLp e 0 [] (List.replicate e.length false) :=
 ⟨fun j x h=>by omega,List.nodup_nil,fun j hj=>by simp at hj;rw[List.getElem?_replicate,if_pos hj];simp⟩
theorem MayLp.put {e:List Nd} {i:Nat} {P:List Int} {U:List Bool} (h:MayLp e i P U) {k:Nat} (hk:(k:Int) ∉ P):MayLp e i (P++[(k:Int)]) (U.set k true):=by
 refine⟨h.ok,?_,fun j hj=>?_⟩
 ·rw[List.nodup_append]
  exact⟨h.nodup,by simp,fun a ha b hb e=>by rw[List.mem_singleton.1 hb] at e;exact hk (e ▸ ha)⟩
 ·rw[List.length_set] at hj
  rw[List.getElem?_set]
  by_cases e:k=j
  ·subst e;rw[if_pos rfl,if_pos hj];simp
  ·rw[if_neg e,h.mark j hj]
   have:¬ (j:Int)=(k:Int):=by omega
   simp[this]
theorem MayLp.next {e:List Nd} {i:Nat} {U:List Bool} {x:Nd} (h:MayLp e i (allK (e.take i)++kids x) U) (hx:e[i]?=some x) (h1:nodeB x=true) (h2:inR x i) (h3:argsOk e x=true):MayLp e (i+1) (allK (e.take (i+1))) U:=by
 refine⟨fun j y hj hy=>?_,?_,?_⟩
 ·by_cases q:j=i
  ·subst q;rw[hx] at hy;cases hy;exact⟨h1,h2,h3⟩
  ·exact h.ok j y (by omega) hy
 ·rw[take_snoc' hx,allK_snoc];exact h.nodup
 ·rw[take_snoc' hx,allK_snoc];exact h.mark
theorem may_no {e:List Nd} (h:MayP e→False):mayB e=false:=by
 rw[Bool.eq_false_iff];intro q;exact h ((mayB_iff e).1 q)
theorem may_twice {e:List Nd} {i t:Nat} {x:Nd} {k:Int} (hx:e[i]?=some x) (hk:(kids x)[t]?=some k) (hm:k∈allK (e.take i)++(kids x).take t):mayB e=false:=by
 apply may_no
 intro h
 have hn:=h.nodup
 obtain⟨he,hl⟩:=split_get hx
 obtain⟨hq,hlq⟩:=split_get hk
 rw[he,allK_app] at hn
 have e1:allK (x :: e.drop (i+1))=((kids x).take t++k :: (kids x).drop (t+1))++allK (e.drop (i+1)):=by
  show (x :: e.drop (i+1)).flatMap kids=_
  rw[List.flatMap_cons]
  congr 1
 rw[e1,List.append_assoc,← List.append_assoc,List.nodup_append] at hn
 exact hn.2.2 k hm k (by simp) rfl
theorem MayLp.finish {e:List Nd} {U:List Bool} (h:MayLp e e.length (allK e) U) (hU:U.length=e.length) (h1:1≤e.length) (h2:e.length≤5000) (h3:(e.getLastD dft).op≠28) :
  mayB e=(!(U.take (e.length - 1)).contains false&&decide (depL e≤40)):=by
 have hN:NodeP e:=fun i x hx=>h.ok i x (List.getElem?_eq_some_iff.1 hx).1 hx
 rw[Bool.eq_iff_iff,mayB_iff]
 simp only[Bool.and_eq_true,decide_eq_true_eq,Bool.not_eq_true']
 constructor
 ·intro hM
  refine⟨?_,hM.deep⟩
  rw[Bool.eq_false_iff,ne_eq,List.contains_iff_mem]
  intro hf
  obtain⟨j,hj⟩:=List.getElem?_of_mem hf
  have hjl:=(List.getElem?_eq_some_iff.1 hj).1
  rw[List.length_take] at hjl
  rw[List.getElem?_take,if_pos (by omega),h.mark j (by omega)] at hj
  have hc:=hM.used j (by omega)
  have:(j:Int)∈allK e:=List.count_pos_iff.1 (by omega)
  simp[this] at hj
 ·rintro ⟨hf,hd⟩
  refine⟨h1,h2,h3,hN,fun j hj=>?_,hd⟩
  have hm:(j:Int)∈allK e:=by
   rcases Classical.em ((j:Int)∈allK e) with q | q
   ·exact q
   ·exfalso
    have h4:=h.mark j (by omega)
    rw[decide_eq_false q] at h4
    have:(U.take (e.length - 1)).contains false=true:=by
     rw[List.contains_iff_mem]
     exact List.mem_of_getElem? (i:=j) (by rw[List.getElem?_take,if_pos (by omega)];exact h4)
    rw[hf] at this;cases this
  have h5:=List.nodup_iff_count.1 h.nodup (j:Int)
  have h6:=List.count_pos_iff.2 hm
  omega
end Go.Proofs.YtmacepicoandkaaGreatDoor
