/- What the law of MorA needs of its own. -/
import Derived.Orders
import Derived.Tactics
import Derived.Laws.IdiomCopy
import Derived.Laws.Cells
import Derived.Below
import Derived.Laws.Entries
import Derived.Laws.Strings
import Derived.Laws.StructEq
import Derived.Laws.RangeString
import Derived.Laws.Runes
import Derived.Laws.Append
import Derived.KernelRfl
import Derived.Test.YtoalnjpeblgkbabGreatDoorChecked
import Derived.Recover
import Derived.Test.YtoalnjpeblgkbabGreatDoorProg
import Derived.WalkKit
import Derived.WalkSpells
import Derived.Deep.Onto
import Derived.Deep.AppendLies
import Derived.Deep.Draws
import Derived.OwnWalk
import Derived.Shelf.Abstract
import Derived.Lib.Strings
import Derived.WalkLawsBesides
import Derived.Outline
import Derived.Laws.EntriesVeiled
import Derived.Deep.RegionHeld3
import Derived.Deep.QuietTactic
import Derived.BigQuiet
import Derived.StillTailTactics
import Derived.Laws.OwnMore
import Derived.Lib.SliceRun
import Derived.Lib.Walk
import Derived.Lib.Hide
import Derived.IntWalk
import Derived.Deep.Cut
import Derived.Deep.RegionLawGrows
import Derived.Test.YtoalnjpeblgkbabGreatDoorRows
import Derived.ProofKit
import Derived.OpenShut
import Derived.Lib.SmallJoins
import Derived.Deep.Slices
import Derived.Deep.Matrix
import Derived.ChangeSlices
import Derived.Test.YtoalnjpeblgkbabGreatDoorTie
import Derived.Lib.LaidU8
import Derived.SliceStrings
import Derived.LaidLaws
import Derived.HandedShaped
import Derived.Lay
import Derived.SevenTiedAt
import Derived.Test.YtoalnjpeblgkbabGreatDoorJ1
import Derived.Test.YtoalnjpeblgkbabGreatDoorJ2
import Derived.Test.YtoalnjpeblgkbabGreatDoorJ3
import Derived.Test.YtoalnjpeblgkbabGreatDoorJ4
import Derived.Test.YtoalnjpeblgkbabGreatDoorJ5
import Derived.Test.YtoalnjpeblgkbabGreatDoorJ6
import Derived.Test.YtoalnjpeblgkbabGreatDoorJ7
import Derived.Test.YtoalnjpeblgkbabGreatDoorJ8
import Derived.Test.YtoalnjpeblgkbabGreatDoorJ9
import Derived.Test.YtoalnjpeblgkbabGreatDoorJ10
import Derived.Test.YtoalnjpeblgkbabGreatDoorJ11
import Derived.Test.YtoalnjpeblgkbabGreatDoorJ12
import Derived.Test.YtoalnjpeblgkbabGreatDoorJ13
import Derived.Test.YtoalnjpeblgkbabGreatDoorJ14
import Derived.Test.YtoalnjpeblgkbabGreatDoorJ15
import Derived.Test.YtoalnjpeblgkbabGreatDoorJ16
import Derived.Test.YtoalnjpeblgkbabGreatDoorJ17
import Derived.Test.YtoalnjpeblgkbabGreatDoorJ18
import Derived.Test.YtoalnjpeblgkbabGreatDoorJ19
import Derived.Test.YtoalnjpeblgkbabGreatDoorJ20
import Derived.Test.YtoalnjpeblgkbabGreatDoorJ21
import Derived.Test.YtoalnjpeblgkbabGreatDoorJ22
import Derived.Test.YtoalnjpeblgkbabGreatDoorJ23
import Derived.Test.YtoalnjpeblgkbabGreatDoorJ24
import Derived.Test.YtoalnjpeblgkbabGreatDoorJ25
import Derived.Test.YtoalnjpeblgkbabGreatDoorJ26
import Derived.Test.YtoalnjpeblgkbabGreatDoorJ27
import Derived.Test.YtoalnjpeblgkbabGreatDoorJ28
import Derived.Test.YtoalnjpeblgkbabGreatDoorJ29
import Derived.Test.YtoalnjpeblgkbabGreatDoorJ30
import Derived.Test.YtoalnjpeblgkbabGreatDoorJ31
import Derived.Test.YtoalnjpeblgkbabGreatDoorJ32
import Derived.Test.YtoalnjpeblgkbabGreatDoorJ33
import Derived.Test.YtoalnjpeblgkbabGreatDoorJ34
import Derived.Test.YtoalnjpeblgkbabGreatDoorJ35
import Derived.Test.YtoalnjpeblgkbabGreatDoorJ36
import Derived.Test.YtoalnjpeblgkbabGreatDoorJ37
import Derived.Test.YtoalnjpeblgkbabGreatDoorJ38
import Derived.Test.YtoalnjpeblgkbabGreatDoorJ39
import Derived.Test.YtoalnjpeblgkbabGreatDoorJ40
set_option linter.unusedVariables false
set_option linter.unusedSimpArgs false
namespace Go.Proofs.YtoalnjpeblgkbabGreatDoor
open Go.RowKit Go.Shelf
namespace Lx
end Lx
theorem ret_bool {a b:Bool} (h:a=b):Ending.returned (.bool a)=.returned (.bool b):=by rw[h]
end Go.Proofs.YtoalnjpeblgkbabGreatDoor
namespace Go.Proofs.YtoalnjpeblgkbabGreatDoor
open Go.RowKit
set_option maxHeartbeats 400000 in
theorem Holds_any (k h a:Int) (s:ByteArray) (row:List Int) (vr:Value) (w:World) (hr:Sl intC 1 w vr row) :
  Calls Tryz.prog 17 #[.agg #[.int .i64 k,.string s,.int .i64 h,.int .i64 a],vr] w fun e w'=>e=.returned (.bool (holdsB h row))∧Below w.heap.size w w':=by
 obtain⟨pa,ca,rfl,hcl,hca⟩:=hr.form
 clear hr
 by_cases h0:(0:Int)≤h
 ·by_cases h1:h<(row.length:Int)
  ·obtain⟨i,rfl⟩:=Int.eq_ofNat_of_zero_le h0
   have hi:i<row.length:=by omega
   obtain⟨bb,oo,rfl,hcell⟩:=hca (w.alloc (.cells #[.int .i64 k,.string s,.int .i64 i,.int .i64 a] 48)) ((Below.refl _ _).alloc (Nat.le_refl _) _) i row[i] (List.getElem?_eq_getElem hi)
   have hc:=hcell 0 (.int .i64 row[i]) rfl
   simp only[Nat.mul_one,Nat.add_zero] at hc
   have hd:holdsB i row = !(row[i]==0):=by simp[holdsB,hi];rfl
   have HD:Hid (_=_):=hd
   clear hd hca hcell
   go_enter Tryz.func17,Tryz.ntmps17
   go_wp2_with fail
   go_ret
   rw[HD.out]
   exact⟨rfl,(Below.refl _ _).alloc (Nat.le_refl _) _⟩
  ·have hd:holdsB h row=false:=by simp[holdsB];omega
   rw[hd]
   go_enter Tryz.func17,Tryz.ntmps17
   go_wp2_with fail
   go_ret
   exact⟨rfl,(Below.refl _ _).alloc (Nat.le_refl _) _⟩
 ·have hd:holdsB h row=false:=by simp[holdsB];omega
  rw[hd]
  go_enter Tryz.func17,Tryz.ntmps17
  go_wp2_with fail
  go_ret
  exact⟨rfl,(Below.refl _ _).alloc (Nat.le_refl _) _⟩
end Go.Proofs.YtoalnjpeblgkbabGreatDoor
namespace Go.Proofs.YtoalnjpeblgkbabGreatDoor
open Go.RowKit
theorem Count_nil (w:World):Calls Tryz.prog 11 #[.pointer none] w fun e w'=>e=.returned (.int .i64 0)∧w'=w:=by
 go_enter Tryz.func11,Tryz.ntmps11
 go_wp2_with fail
 go_ret
 exact⟨rfl,rfl⟩
theorem Count_any (b:Nat) (n:Int) (w:World) (h:w.cell? ⟨b,2,none⟩=some (.int .i64 n)):Calls Tryz.prog 11 #[.pointer (some ⟨b,0,none⟩)] w fun e w'=>e=.returned (.int .i64 n)∧w'=w:=by
 go_enter Tryz.func11,Tryz.ntmps11
 go_wp2_with fail
 go_ret
 exact⟨rfl,rfl⟩
end Go.Proofs.YtoalnjpeblgkbabGreatDoor
namespace Go.Proofs.YtoalnjpeblgkbabGreatDoor
theorem firstD_range (h:Int):∀ (rs:List (List Int)) (k:Nat),firstD h rs k = -1∨((k:Int)≤firstD h rs k∧firstD h rs k<(k+rs.length:Nat))
 | [],k=>Or.inl rfl
 | r :: rs,k=>by
  by_cases hr:holdsB h r=true
  ·rw[firstD_t hr]
   rcases firstD_range h rs (k+1) with e | ⟨e,f⟩
   ·exact Or.inl e
   ·exact Or.inr ⟨by omega,by simp only[List.length_cons];omega⟩
  ·rw[firstD_f hr];exact Or.inr ⟨Int.le_refl _,by simp only[List.length_cons];omega⟩
theorem newly_at (l:List Chk) (rows:List (List Int)) (i:Nat) (row:List Int) (hr:rows[i]?=some row) (k:Nat) (c:Chk) (hc:l[k]?=some c):newly l (firstL l (rows.take i)) row k=(firstD c.holds rows 0==(i:Int)):=by
 rw[newly_first l _ row k c hc]
 have hi:i<rows.length:=(List.getElem?_eq_some_iff.1 hr).1
 have hs:∀ m,i<m→m≤rows.length→(firstD c.holds (rows.take m) 0=(i:Int)↔(firstD c.holds (rows.take i) 0 = -1∧holdsB c.holds row=false)):=by
  intro m
  induction m with
  | zero=>intro h;omega
  | succ m ih =>
   intro h1 h2
   obtain⟨r,hrm⟩ : ∃ r,rows[m]?=some r:=⟨_,List.getElem?_eq_getElem (by omega)⟩
   rw[List.take_add_one,hrm]
   simp only[Option.toList]
   rw[firstD_snoc]
   have hl:(rows.take m).length=m:=by simp;omega
   rw[hl]
   by_cases e:i=m
   ·subst e
    rw[hr] at hrm;cases hrm
    rcases firstD_range c.holds (rows.take i) 0 with q | ⟨q1,q2⟩
    ·rw[if_pos q,q]
     cases holdsB c.holds row <;> simp <;> omega
    ·rw[if_neg (by omega)]
     constructor
     ·intro w;rw[hl] at q2;omega
     ·rintro ⟨w,_⟩;omega
   ·have ih':=ih (by omega) (by omega)
    by_cases q:firstD c.holds (rows.take m) 0 = -1
    ·rw[if_pos q]
     have:¬ (firstD c.holds (rows.take m) 0=(i:Int)):=by omega
     rw[← ih']
     constructor
     ·intro w;split at w <;> omega
     ·intro w;exact absurd w this
    ·rw[if_neg q];exact ih'
 have:=hs rows.length hi (Nat.le_refl _)
 rw[List.take_length] at this
 by_cases h1:firstD c.holds rows 0=(i:Int)
 ·obtain⟨p,q⟩:=this.1 h1
  rw[h1,p,q];simp
 ·have h2:¬ (firstD c.holds (rows.take i) 0 = -1∧holdsB c.holds row=false):=fun w=>h1 (this.2 w)
  have e:(firstD c.holds rows 0==(i:Int))=false:=by simpa using h1
  rw[e]
  cases hb:holdsB c.holds row
  ·have:¬ firstD c.holds (rows.take i) 0 = -1:=fun w=>h2 ⟨w,hb⟩
   simp[this]
  ·simp
end Go.Proofs.YtoalnjpeblgkbabGreatDoor
namespace Go.Proofs.YtoalnjpeblgkbabGreatDoor
open Go.RowKit
theorem pFirst_nil (w:World):Calls Tryz.prog 12 #[.pointer none] w fun e w'=>e=.returned (.slice none 0 0)∧w'=w:=by
 go_enter Tryz.func12,Tryz.ntmps12
 go_wp2_with fail
 go_ret
 exact⟨rfl,rfl⟩
theorem step_nil (v:Value) (w:World):Calls Tryz.prog 9 #[.pointer none,v] w fun e w'=>e=.returned (.slice none 0 0)∧w'=w:=by
 go_enter Tryz.func9,Tryz.ntmps9
 go_wp2_with fail
 go_ret
 exact⟨rfl,rfl⟩
end Go.Proofs.YtoalnjpeblgkbabGreatDoor
namespace Go.Proofs.YtoalnjpeblgkbabGreatDoor
open Go.RowKit
theorem take_eq_snoc {α:Type} (a b:List α) (k:Nat) (x y:α) (ha:a[k]?=some x) (hb:b[k]?=some y) (h:a.take k=b.take k):(a.take (k+1)=b.take (k+1))↔x=y:=by
 rw[List.take_add_one,List.take_add_one,ha,hb,h]
 constructor
 ·intro q;have:=List.append_cancel_left q;simpa using this
 ·intro q;rw[q]
set_option maxHeartbeats 1000000 in
theorem Ints_any (a b:List Int) (va vb:Value) (w:World) (ha:Sl intC 1 w va a) (hb:Sl intC 1 w vb b) (hla:a.length≤10000000) :
  Calls Tryz.prog 10 #[va,vb] w fun e w'=>e=.returned (.bool (a==b))∧∃ n,w'=w.drewN n:=by
 obtain⟨pa,ca,rfl,hcl,hca⟩:=ha.form
 obtain⟨pb,cb,rfl,hcl2,hcb⟩:=hb.form
 clear ha hb
 by_cases hl:a.length=b.length
 ·obtain⟨n,hn⟩ : ∃ n,n=a.length:=⟨_,rfl⟩
  have hn2:n=b.length:=by omega
  rw[← hn] at hcl hla
  rw[← hn2] at hcl2
  rw[← hn,← hn2]
  have HA:Hid (n=a.length):=hn
  have HB:Hid (n=b.length):=hn2
  clear hn hn2 hl
  go_enter Tryz.func10,Tryz.ntmps10
  go_wp2_with fail
  go_loopw [5] (fun i wr=>∃ k:Nat,k≤n∧i=.int .i64 k∧(∃ q,wr=w.drewN q)∧a.take k=b.take k) (fun i _=>n - (intOf i).toNat)
  case atStart=>exact⟨0,Nat.zero_le _,rfl,⟨0,rfl⟩,by simp⟩
  case round =>
   obtain⟨k,hk,rfl,⟨q0,hW⟩,heq⟩:=hrel
   have hB:Below w.heap.size w wr:=by rw[hW];exact below_drawn (Below.refl _ _) _
   by_cases hlt:k<n
   ·obtain⟨x,hx⟩ : ∃ x,a[k]?=some x:=⟨_,List.getElem?_eq_getElem (by have:=HA.out;omega)⟩
    obtain⟨y,hy⟩ : ∃ y,b[k]?=some y:=⟨_,List.getElem?_eq_getElem (by have:=HB.out;omega)⟩
    obtain⟨b1,o1,h1,k1⟩:=hca wr hB k x hx
    obtain⟨b2,o2,h2,k2⟩:=hcb wr hB k y hy
    subst h1 h2
    have HE:Hid ((a.take (k+1)=b.take (k+1))↔x=y):=take_eq_snoc a b k x y hx hy heq
    have HNE:Hid (a=b→a.take (k+1)=b.take (k+1)):=fun q=>by show _=_;rw[q]
    have hk0:(0:Int)≤(k:Int):=by omega
    have hk1:(k:Int)<(n:Int):=by omega
    have c0:wr.cell? ⟨b1,o1+k,none⟩=some (.int .i64 x):=by have:=k1 0 _ rfl;simpa using this
    have d0:wr.cell? ⟨b2,o2+k,none⟩=some (.int .i64 y):=by have:=k2 0 _ rfl;simpa using this
    have HWr:Hid (∃ q,wr=w.drewN q):=⟨q0,hW⟩
    clear hx hy heq hca hcb k1 k2 hW
    by_cases hxy:x=y
    ·have hne:(x != y)=false:=by simp[hxy]
     have HX:Hid (x=y):=hxy
     clear hxy
     go_wp2_with fail
     go_quiet (fail)
     go_wp2_with fail
     go_roundw
     case rel =>
      obtain⟨q,hq⟩:=HWr.out
      exact⟨k+1,by omega,by go_num,⟨_,by rw[hq,World.drewN_drewN]⟩,HE.out.2 HX.out⟩
     case measure=>simp[intOf];omega
    ·have hne:(x != y)=true:=by simpa using hxy
     have HX:Hid ((a==b)=false):=by
      show _=_
      rw[beq_eq_false_iff_ne];intro h;exact hxy (HE.out.1 (HNE.out h))
     clear hxy
     go_wp2_with fail
     go_quiet (fail)
     go_wp2_with fail
     go_ret
     obtain⟨q,hq⟩:=HWr.out
     exact⟨ret_bool HX.out.symm,⟨_,by rw[hq,World.drewN_drewN]⟩⟩
   ·have hke:k=n:=by omega
    subst hke
    have HF:Hid ((a==b)=true):=by
     show _=true
     have h1:=HA.out;have h2:=HB.out
     rw[List.take_of_length_le (by omega),List.take_of_length_le (by omega)] at heq
     rw[heq];simp
    clear heq hca hcb
    go_wp2_with fail
    go_ret
    exact⟨ret_bool HF.out.symm,⟨q0,by first | exact hW | rfl⟩⟩
 ·have hne:((a.length:Int) != (b.length:Int))=true:=by simp;omega
  have HF:Hid ((a==b)=false):=by
   show _=false
   rw[beq_eq_false_iff_ne];rintro rfl;exact hl rfl
  clear hca hcb
  go_enter Tryz.func10,Tryz.ntmps10
  go_wp2_with fail
  go_ret
  exact⟨ret_bool HF.out.symm,⟨0,rfl⟩⟩
end Go.Proofs.YtoalnjpeblgkbabGreatDoor
namespace Go.Proofs.YtoalnjpeblgkbabGreatDoor
open Go.RowKit
theorem firstD_at {h:Int} {rows:List (List Int)} {j:Nat} {r:List Int} (hr:rows[j]?=some r):firstD h (rows.drop j) j=if holdsB h r=true then firstD h (rows.drop (j+1)) (j+1) else j:=by
 obtain⟨hl,he⟩:=List.getElem?_eq_some_iff.1 hr
 rw[List.drop_eq_getElem_cons hl,he]
 by_cases hh:holdsB h r=true
 ·rw[firstD_t hh,if_pos hh]
 ·rw[firstD_f hh,if_neg hh]
set_option maxRecDepth 100000 in
set_option maxHeartbeats 2000000 in
theorem rFirst_any (l : List Chk) (hl : l.length ≤ 60) (rows : List (List Int)) (hm : rows.length ≤ 30) (v vr : Value) (w : World) (hv : Sl chkC 4 w v l) (hr : Sg 1 RwP w vr rows) :
    Calls Tryz.prog 8 #[v, vr] w fun e w' => ∃ u, e = .returned u ∧ Below w.heap.size w w' ∧ ∀ M : List Nat, (∀ i ∈ M, i < w.heap.size) → SlN intC 1 M w' u (firstL l rows) := by
  obtain ⟨pa, ca, rfl, hcl, hca⟩ := hv.form
  obtain ⟨qa, qc, rfl, hql, hqa⟩ := hr.form RwP.keeps
  obtain ⟨n, hn⟩ : ∃ n, n = l.length := ⟨_, rfl⟩
  obtain ⟨m, hmm⟩ : ∃ m, m = rows.length := ⟨_, rfl⟩
  rw [← hn] at hcl hl ⊢
  rw [← hmm] at hql hm ⊢
  have HN := Lib.hid hn
  have HM := Lib.hid hmm
  have HC := Lib.hid hca
  have HQ := Lib.hid hqa
  clear hca hn hv hr hmm hqa
  go_enter Tryz.func8, Tryz.ntmps8
  go_wp2_with fail
  go_loopw [5, 6] (fun out iv wr => ∃ t : Nat, iv = .int .i64 t ∧ t ≤ n ∧ Below w.heap.size w wr ∧ wr.ownsRow w.heap.size 3 1 out t (((firstL l rows).take t).flatMap intC)) (fun _ iv _ => n - (intOf iv).toNat)
  case atStart => exact ⟨0, rfl, Nat.zero_le _, Below.refl _ _, World.ownsRow_nil _ _ _ _⟩
  case round =>
    obtain ⟨t, rfl, ht, hB, hrow⟩ := hrel
    obtain ⟨w1, rfl⟩ : ∃ w1, w1 = wr := ⟨_, rfl⟩
    by_cases hlt : t < n
    · obtain ⟨c, hc⟩ : ∃ c, l[t]? = some c := ⟨_, List.getElem?_eq_getElem (by have := HN.out; omega)⟩
      obtain ⟨bb, oo, rfl, -⟩ := HC.out w1 hB t c hc
      have htn : (t : Int) < (n : Int) := by omega
      have ht0 : (0 : Int) ≤ (t : Int) := by omega
      have HK := Lib.hid hc
      have HB := Lib.hid hB
      have HROW := Lib.hid hrow
      have hm1 : wrap64 ((m : Int) - 1) = (m : Int) - 1 := by unfold wrap64; omega
      clear hB hc hrow
      go_wp2_with fail
      go_loopw [7, 8] (fun av kv w2 => ∃ (z : Int) (j : Nat), kv = .int .i64 z ∧ z = (j : Int) - 1 ∧ j ≤ m ∧ av = .int .i64 (firstD c.holds (rows.drop j) j) ∧ Below w1.heap.size w1 w2) (fun _ kv _ => (intOf kv + 1).toNat)
      case atStart =>
        refine ⟨_, m, rfl, rfl, Nat.le_refl _, ?_, Below.refl _ _⟩
        rw [List.drop_eq_nil_of_le (by have := HM.out; omega)]; rfl
      case round =>
        obtain ⟨z, j, rfl, hz, hj, rfl, hB2⟩ := hrel
        cases j with
        | succ j =>
          obtain rfl : z = (j : Int) := by omega
          obtain ⟨r, hr⟩ : ∃ r, rows[j]? = some r := ⟨_, List.getElem?_eq_getElem (by have := HM.out; omega)⟩
          have hbw := below_next HB.out hB2
          obtain ⟨rb, ro, rcs, rfl, ⟨ru, rfl, hru⟩, hrc⟩ := HQ.out wr hbw j r hr
          obtain ⟨ra, rc, rfl, -, -⟩ := hru.form
          obtain ⟨rn, hrn⟩ : ∃ rn, rn = r.length := ⟨_, rfl⟩
          rw [← hrn] at hrc hru
          have hbbw : bb < w.heap.size := by
            obtain ⟨b2, o2, e2, h2⟩ := HC.out w (Below.refl _ _) t c HK.out
            cases e2
            exact World.block_lt_of_cell? w _ (h2 0 _ rfl)
          have hrbw : rb < w.heap.size := by
            obtain ⟨b2, o2, cs2, e2, -, h2⟩ := HQ.out w (Below.refl _ _) j r hr
            cases e2
            obtain ⟨b3, o3, cs3, e3, ⟨u3, rfl, -⟩, h3⟩ := HQ.out w (Below.refl _ _) j r hr
            cases e3
            exact World.block_lt_of_cell? w _ (h3 0 _ rfl)
          have KK : ∀ W : World, Below w.heap.size w W → (W.cell? ⟨bb, oo + t * 4, none⟩ = some (.int .i64 c.kind) ∧ W.cell? ⟨bb, oo + t * 4 + 1, none⟩ = some (.string c.name) ∧ W.cell? ⟨bb, oo + t * 4 + 2, none⟩ = some (.int .i64 c.holds) ∧ W.cell? ⟨bb, oo + t * 4 + 3, none⟩ = some (.int .i64 c.active)) ∧ W.cell? ⟨rb, ro + j, none⟩ = some (.slice ra rn rc) := fun W hW => by
            obtain ⟨b2, o2, e2, h2⟩ := HC.out W hW t c HK.out
            cases e2
            refine ⟨⟨h2 0 _ rfl, h2 1 _ rfl, h2 2 _ rfl, h2 3 _ rfl⟩, ?_⟩
            have h4 : wr.cell? ⟨rb, ro + j * 1 + 0, none⟩ = some (.slice ra rn rc) := hrc 0 _ rfl
            rw [Nat.mul_one, Nat.add_zero] at h4
            refine (World.cell?_of_block (w := wr) (a := ⟨rb, ro + j, none⟩) ?_).trans h4
            exact (hW.block rb hrbw).trans (hbw.block rb hrbw).symm
          have K0 := KK wr hbw
          have K1 := KK wr.drew hbw.drew
          have hcall := Holds_any c.kind c.holds c.active c.name r (.slice ra rn rc) wr.drew (show Sl intC 1 wr.drew _ _ from hru)
          have hfd := firstD_at (h := c.holds) hr
          have hj0 : (0 : Int) ≤ (j : Int) := by omega
          have hjm : (j : Int) < (m : Int) := by omega
          have hjs : wrap64 ((j : Int) - 1) = (j : Int) - 1 := by unfold wrap64; omega
          have HBW := Lib.hid hbw
          have HB2 := Lib.hid hB2
          clear hr hrc hru hrn hbw hB2 hz
          obtain ⟨fd, hfdd⟩ : ∃ fd, fd = firstD c.holds (rows.drop (j + 1)) (j + 1) := ⟨_, rfl⟩
          rw [← hfdd] at hfd ⊢
          have HFDD := Lib.hid hfdd
          clear hfdd
          cases hh : holdsB c.holds r
          all_goals
            rw [hh] at hcall hfd
            have HFD := Lib.hid hfd
            clear hh hfd
            go_wp2_with fail
            go_region_held3 (fun w' => (w'.cell? ⟨bb, oo + t * 4, none⟩ = some (.int .i64 c.kind) ∧ w'.cell? ⟨bb, oo + t * 4 + 1, none⟩ = some (.string c.name) ∧ w'.cell? ⟨bb, oo + t * 4 + 2, none⟩ = some (.int .i64 c.holds) ∧ w'.cell? ⟨bb, oo + t * 4 + 3, none⟩ = some (.int .i64 c.active)) ∧ w'.cell? ⟨rb, ro + j, none⟩ = some (.slice ra rn rc))
              (first | exact K5 | exact K1 | exact K0)
              (first
                | (go_at_call 17
                   go_must (with_reducible refine hcall.mono ?_)
                   rintro e w5 ⟨rfl, hb5⟩
                   have hb5' : Below wr.heap.size wr w5 := below_next ((Below.refl wr.heap.size wr).drew) hb5
                   have K5 := KK w5 (below_next HBW.out hb5')))
            have HB5 := Lib.hid (below_next HB2.out hb5')
            clear hcall K0 K1 K5 KK hb5 hb5'
            go_wp2_with fail
            go_roundw
            case rel => exact ⟨_, j, rfl, rfl, by omega, by rw [HFD.out]; rfl, HB5.out⟩
            case measure => (simp [intOf] <;> omega)
        | zero =>
          obtain rfl : z = -1 := by omega
          have hrow2 := below_row hB2 HROW.out
          have hbs := hB2.size
          have hbs1 := HB.out.size
          have hfe : (firstL l rows)[t]? = some (firstD c.holds (rows.drop 0) 0) := by unfold firstL; rw [List.getElem?_map, HK.out]; rfl
          obtain ⟨fd, hfdd⟩ : ∃ fd, fd = firstD c.holds (rows.drop 0) 0 := ⟨_, rfl⟩
          rw [← hfdd] at hfe ⊢
          have HFE := Lib.hid hfe
          have HB2 := Lib.hid hB2
          have HU := Lib.hid hrow2.lt
          clear hfe hB2 hz hfdd
          go_wp2_with (at_builtin; refine wpList_app rowIM rfl _ _ rfl w.heap.size _ _ _ rfl (World.ownsRow.alloc hrow2 _) ⟨wr.heap.size, 0, none⟩ 1 [.int .i64 fd] rfl rfl (cell_one_new _ _ _) (by simp [Value.oneCell']) (by omega) (by simp; omega) (wr.heap.size + 1) (by simp) ?_)
          intro g cap w4 hown hgrow _ _ _
          have hb4 : Below w.heap.size w w4 := by
            have h1 := below_next HB.out HB2.out
            exact (h1.alloc h1.size _).grown hgrow (by simp; have := h1.size; omega) (fun k hk => (HU.out k hk).1)
          have hl4 : ((firstL l rows).take t).flatMap intC ++ [.int .i64 fd] = ((firstL l rows).take (t + 1)).flatMap intC := by rw [List.take_add_one, HFE.out]; simp [intC]
          rw [hl4] at hown
          have HO4 := Lib.hid hown
          have HB4 := Lib.hid hb4
          clear hl4 hown hgrow hb4 hrow2
          go_wp2_with fail
          go_roundw
          case rel => exact ⟨t + 1, by go_num, by omega, HB4.out, HO4.out⟩
          case measure => simp [intOf]; omega
    · have hte : t = n := by omega
      subst hte
      have HO : Hid (∀ M : List Nat, (∀ i ∈ M, i < w.heap.size) → SlN intC 1 M w1 u5 (firstL l rows)) := by
        show ∀ M : List Nat, _ → SlN _ _ _ _ _ _
        have h1 : (firstL l rows).take t = firstL l rows := List.take_of_length_le (by rw [firstL_len]; have := HN.out; omega)
        rw [h1] at hrow
        exact fun M hM => ownsRow_apart intC_len hrow (by rw [firstL_len]; exact HN.out.symm) hM
      have HB := Lib.hid hB
      clear hrow hB
      go_wp2_with fail
      go_ret
      exact ⟨_, rfl, HB.out, HO.out⟩
end Go.Proofs.YtoalnjpeblgkbabGreatDoor
namespace Go.Proofs.YtoalnjpeblgkbabGreatDoor
open Go.RowKit
theorem beq_self_ints (l:List Int):(l==l)=true:=by simp
set_option maxRecDepth 100000 in
set_option maxHeartbeats 4000000 in
theorem monitorWatches_any (l : List Chk) (v : Value) (rows : List (List Int)) (vr : Value) (w : World) (G : GlM w) (hv : Sl chkC 4 w v l) (hr : Sg 1 RwP w vr rows) :
    Calls Tryz.prog 3 #[v, vr] w fun e w' => e = .returned (.bool true) ∧ Below w.heap.size w w' := by
  have HG := Lib.hid G
  clear G
  obtain ⟨pa, ca, rfl, hcl, -⟩ := hv.form
  obtain ⟨qa, qc, rfl, hql, hqa⟩ := hr.form RwP.keeps
  obtain ⟨n, hn⟩ : ∃ n, n = l.length := ⟨_, rfl⟩
  obtain ⟨m, hmm⟩ : ∃ m, m = rows.length := ⟨_, rfl⟩
  rw [← hn] at hv hcl ⊢
  rw [← hmm] at hr hql ⊢
  have HN := Lib.hid hn
  have HM := Lib.hid hmm
  have HV := Lib.hid hv
  have HR := Lib.hid hr
  have HQ := Lib.hid hqa
  clear hv hr hn hmm hqa
  by_cases hn60 : n ≤ 60
  · by_cases hm30 : m ≤ 30
    · have hown := Own_any l (by rw [← HN.out]; omega) _ w HV.out
      go_enter Tryz.func3, Tryz.ntmps3
      go_wp2_with fail
      refine hown.mono ?_
      rintro e W1 ⟨u, rfl, hb1, hs1⟩
      obtain ⟨ua, uc, rfl, -, -⟩ := hs1.form
      have hnew := New_any l (by rw [← HN.out]; exact hn60) _ W1 hs1 (HG.out.below hb1).h4
      rw [← HN.out] at hnew ⊢
      have HB1 := Lib.hid hb1
      clear hown hb1 hs1
      go_wp2_with fail
      refine hnew.mono ?_
      rintro e W2 ⟨b, fb, fo, rfl, hW, hbb, hfb, hb2⟩
      have HB2 := Lib.hid (below_next HB1.out hb2)
      have hbw : w.heap.size ≤ b := Nat.le_trans HB1.out.size hbb
      have hfw : w.heap.size ≤ fb := Nat.le_trans HB1.out.size hfb
      have hW0 : WatchAt W2 [b, fb] b fb fo l (firstL l (rows.take 0)) ((0 : Nat) : Int) := by rw [List.take_zero, firstL_nil, ← HN.out]; exact hW
      have HW0 := Lib.hid hW0
      have HBW := Lib.hid hbw
      have HFW := Lib.hid hfw
      have hfi := rFirst_any l (by rw [← HN.out]; exact hn60) rows (by rw [← HM.out]; exact hm30) _ _ W2 (HV.out.below HB2.out) (HR.out.below RwP.keeps HB2.out)
      clear hnew hb2 hW hW0 hbb hfb hbw hfw
      go_wp2_with fail
      refine hfi.mono ?_
      rintro e W3 ⟨fv, rfl, hb3, hf30⟩
      have hf3 : SlN intC 1 [b, fb] W3 fv (firstL l rows) := by
        by_cases h0 : l = []
        · exact sln_empty (hf30 [] (fun i hi => by cases hi)).sl (by rw [h0]; rfl)
        · refine hf30 _ (fun i hi => ?_)
          obtain ⟨_, _, q1, _, q3⟩ := HW0.out.ex
          have q4 := q1.lt
          have q5 := q3.lt (fun e => h0 (by have := congrArg List.length e; rw [firstL_len] at this; exact List.eq_nil_of_length_eq_zero this))
          simp only [List.mem_cons, List.not_mem_nil, or_false] at hi
          rcases hi with rfl | rfl <;> omega
      obtain ⟨fa, fc, rfl, -, -⟩ := hf3.form
      rw [firstL_len, ← HN.out] at hf3 ⊢
      have HF3 := Lib.hid hf3
      have HB3 := Lib.hid (below_next HB2.out hb3)
      have HW3 := Lib.hid (HW0.out.below hb3)
      have hn00 : ((0 : Nat) : Int) = 0 := rfl
      clear hfi hb3 hf3 hf30
      go_wp2_with fail
      go_loopw [7] (fun iv wr => ∃ t : Nat, iv = .int .i64 t ∧ t ≤ m ∧ Below w.heap.size w wr ∧ WatchAt wr [b, fb] b fb fo l (firstL l (rows.take t)) (t : Int) ∧ SlN intC 1 [b, fb] wr (.slice fa n fc) (firstL l rows)) (fun iv _ => m - (intOf iv).toNat)
      case atStart =>
        exact ⟨0, rfl, Nat.zero_le _, HB3.out, HW3.out, HF3.out⟩
      case round =>
        obtain ⟨t, rfl, ht, hB, hW, hF⟩ := hrel
        obtain ⟨w1, rfl⟩ : ∃ w1, w1 = wr := ⟨_, rfl⟩
        have HB := Lib.hid hB
        have HW := Lib.hid hW
        have HF := Lib.hid hF
        have ht0 : (0 : Int) ≤ (t : Int) := by omega
        clear hB hW hF
        by_cases hlt : t < m
        · obtain ⟨r, hr⟩ : ∃ r, rows[t]? = some r := ⟨_, List.getElem?_eq_getElem (by have := HM.out; omega)⟩
          obtain ⟨rb, ro, rcs, rfl, ⟨ru, rfl, hru⟩, hrc⟩ := HQ.out w (Below.refl _ _) t r hr
          have hc0 : w.cell? ⟨rb, ro + t * 1 + 0, none⟩ = some ru := hrc 0 _ rfl
          rw [Nat.mul_one, Nat.add_zero] at hc0
          have hrs : SlN intC 1 [b, fb] w ru r := hru.apart (fun i hi => by
            simp only [List.mem_cons, List.not_mem_nil, or_false] at hi
            have := HBW.out; have := HFW.out
            rcases hi with rfl | rfl <;> omega)
          have hrs1 := hrs.below HB.out
          obtain ⟨ra, rc, rfl, -, -⟩ := hru.form
          obtain ⟨rn, hrn⟩ : ∃ rn, rn = r.length := ⟨_, rfl⟩
          rw [← hrn] at hc0 hrs1
          have hc1 : w1.cell? ⟨rb, ro + t, none⟩ = some (.slice ra rn rc) := (HB.out.cell (p := ⟨rb, ro + t, none⟩) (World.block_lt_of_cell? w _ hc0)).trans hc0
          have htm : (t : Int) < (m : Int) := by omega
          have HRR := Lib.hid hr
          clear hru hrc hc0 hrs hrn hr
          by_cases h60 : rn ≤ 60
          · have hstep := Step_any HW.out (by rw [firstL_len]) (by rw [← HN.out]; exact hn60) (by omega) r _ hrs1
            rw [← HN.out] at hstep
            clear hrs1
            go_wp2_with fail
            refine hstep.mono ?_
            rintro e w4 ⟨tv, rfl, hF4, hW4, hT40⟩
            have hT4 := (hT40 [] (fun i hi => by cases hi)).sl
            clear hT40
            rw [stepTo_take HRR.out HN.out] at hW4
            obtain ⟨ta, tc, rfl, -, -⟩ := hT4.form
            have HB4 : Hid (Below w.heap.size w w4) := FrS.below HB.out hF4 HB.out.size (fun i hi => by
              simp only [List.mem_cons, List.not_mem_nil, or_false] at hi
              have := HBW.out; have := HFW.out
              rcases hi with rfl | rfl <;> omega)
            have HF4 := Lib.hid (HF.out.fr hF4 (fun i hi => hi))
            obtain ⟨fl, hfl⟩ : ∃ fl, fl = failedTo l (firstL l (rows.take t)) r n := ⟨_, rfl⟩
            obtain ⟨tn, htn⟩ : ∃ tn, tn = fl.length := ⟨_, rfl⟩
            rw [← hfl, ← htn] at hT4
            rw [← hfl, ← htn]
            have HW4 := Lib.hid hW4
            have HT4 := Lib.hid hT4
            have HFL := Lib.hid hfl
            have HTN := Lib.hid htn
            clear hstep hF4 hW4 hT4 hc1 hfl htn
            go_wp2_with fail
            go_loopw [9, 10] (fun wv kv wr => ∃ k : Nat, kv = .int .i64 k ∧ k ≤ n ∧ Below w4.heap.size w4 wr ∧ wr.ownsRow w4.heap.size 3 1 wv (failedTo l (firstL l (rows.take t)) r k).length ((failedTo l (firstL l (rows.take t)) r k).flatMap intC)) (fun _ kv _ => n - (intOf kv).toNat)
            case atStart => exact ⟨0, rfl, Nat.zero_le _, Below.refl _ _, World.ownsRow_nil _ _ _ _⟩
            case round =>
              obtain ⟨k, rfl, hk, hB5, hrow⟩ := hrel
              obtain ⟨w5, rfl⟩ : ∃ w5, w5 = wr := ⟨_, rfl⟩
              have HB5 := Lib.hid hB5
              have HROW := Lib.hid hrow
              have hk0 : (0 : Int) ≤ (k : Int) := by omega
              clear hB5 hrow
              by_cases hkn : k < n
              · obtain ⟨c, hc⟩ : ∃ c, l[k]? = some c := ⟨_, List.getElem?_eq_getElem (by have := HN.out; omega)⟩
                have hfk : (firstL l rows)[k]? = some (firstD c.holds rows 0) := by unfold firstL; rw [List.getElem?_map, hc]; rfl
                have hnw := newly_at l rows t r HRR.out k c hc
                obtain ⟨x, hx⟩ : ∃ x, x = firstD c.holds rows 0 := ⟨_, rfl⟩
                rw [← hx] at hfk hnw
                obtain ⟨a', c', he, -, hfc⟩ := (HF4.out.sl).form
                have e1 : fa = a' := by injection he
                rw [← e1] at hfc
                clear e1 he
                obtain ⟨fb', fo', rfl, hcell⟩ := hfc w5 HB5.out k x hfk
                have cx : w5.cell? ⟨fb', fo' + k, none⟩ = some (.int .i64 x) := by have := hcell 0 _ rfl; simpa using this
                have hkn' : (k : Int) < (n : Int) := by omega
                have hbs := HB5.out.size
                have hfl := failedTo_len l (firstL l (rows.take t)) r k
                clear hcell hfc hfk hx hc
                by_cases hxt : x = (t : Int)
                · subst hxt
                  have hnt : newly l (firstL l (rows.take t)) r k = true := by rw [hnw]; simp
                  have HNT := Lib.hid hnt
                  have HU := Lib.hid HROW.out.lt
                  have hrow2 := HROW.out
                  clear hnw hnt
                  go_wp2_with (at_builtin; refine wpList_app rowIM rfl _ _ rfl w4.heap.size _ _ _ rfl (World.ownsRow.alloc hrow2 _) ⟨w5.heap.size, 0, none⟩ 1 [.int .i64 k] rfl rfl (cell_one_new _ _ _) (by simp [Value.oneCell']) (by omega) (by simp; omega) (w5.heap.size + 1) (by simp) ?_)
                  intro g cap w6 hown hgrow _ _ _
                  have hb6 : Below w4.heap.size w4 w6 := (HB5.out.alloc HB5.out.size _).grown hgrow (by simp; have := HB5.out.size; omega) (fun q hq => (HU.out q hq).1)
                  have h5 : (failedTo l (firstL l (rows.take t)) r k).flatMap intC ++ [.int .i64 k] = (failedTo l (firstL l (rows.take t)) r (k + 1)).flatMap intC ∧ (failedTo l (firstL l (rows.take t)) r k).length + 1 = (failedTo l (firstL l (rows.take t)) r (k + 1)).length := by
                    rw [failedTo_succ, HNT.out]; simp [List.flatMap_append, intC]
                  rw [h5.1, h5.2] at hown
                  rw [h5.2]
                  have HO6 := Lib.hid hown
                  have HB6 := Lib.hid hb6
                  clear h5 hown hgrow hb6 hrow2 hfl
                  go_wp2_with fail
                  go_roundw
                  case rel => exact ⟨k + 1, by go_num, by omega, HB6.out, HO6.out⟩
                  case measure => simp [intOf]; omega
                · have hxb : (x == (t : Int)) = false := by simpa using hxt
                  have hnt : newly l (firstL l (rows.take t)) r k = false := by rw [hnw, hxb]
                  have HNT := Lib.hid hnt
                  clear hnw hnt hxt
                  go_wp2_with fail
                  go_roundw
                  case rel => exact ⟨k + 1, by go_num, by omega, HB5.out, by rw [failedTo_succ, HNT.out]; simpa using HROW.out⟩
                  case measure => simp [intOf]; omega
              · have hke : k = n := by omega
                subst hke
                have hwl : Sl intC 1 w5 u9 fl := by rw [HFL.out]; exact Sl.own intC_len HROW.out rfl
                obtain ⟨wa, wc, rfl, -, -⟩ := hwl.form
                have hflk := failedTo_len l (firstL l (rows.take t)) r k
                rw [← HFL.out] at hflk
                rw [← HTN.out] at hwl
                rw [← HTN.out]
                have hI1 := Ints_any fl fl (.slice ta tn tc) (.slice wa tn wc) w5.drew (show Sl intC 1 w5 _ _ from HT4.out.below HB5.out) (show Sl intC 1 w5 _ _ from hwl) (by omega)
                rw [beq_self_ints] at hI1
                have HB5w : Hid (Below w.heap.size w w5) := below_next HB4.out HB5.out
                obtain ⟨s, hs⟩ : ∃ s : Nat, s = t + 1 := ⟨_, rfl⟩
                have hsi : (t : Int) + 1 = (s : Int) := by omega
                have HW5 : Hid (WatchAt w5 [b, fb] b fb fo l (firstL l (rows.take s)) (s : Int)) := by
                  show WatchAt _ _ _ _ _ _ _ _
                  rw [hs, ← hs, ← hsi, hs]
                  exact HW4.out.below HB5.out
                have hc2 : ∀ q, (w5.drewN q).cell? ⟨b, 2, none⟩ = some (.int .i64 (s : Int)) := fun q => by
                  obtain ⟨_, _, q1, _, _⟩ := HW5.out.ex
                  exact q1.c rfl
                have hC := fun q => Count_any b (s : Int) (w5.drewN q) (hc2 q)
                have hP := fun q => pFirst_any (HW5.out.drawn q) (by rw [firstL_len, ← HN.out]; omega)
                have hw1 : wrap64 ((t : Int) + 1) = (s : Int) := by unfold wrap64; omega
                have hw2 : IntKind.i64.wrap ((t : Int) + 1) = (s : Int) := by rw [← hw1]; exact IntWalk.i64_left _
                have hne : ((s : Int) != (s : Int)) = false := by simp
                have hi1 : (0 : Int) ≤ (s : Int) := by omega
                have hi2 : (s : Int) ≤ (m : Int) := by omega
                have hi3 : (s : Int) ≤ (qc : Int) := by omega
                have HS := Lib.hid hs
                have hsm : s ≤ m := by omega
                have HC2 := Lib.hid hc2
                clear hwl hflk hc2 hs hsi
                go_wp2_with fail
                go_region_held3 (fun w' => True)
                  (exact trivial)
                  (first
                    | (go_at_call 10
                       (with_reducible refine hI2.mono ?_)
                       rintro e w9 ⟨rfl, q9, rfl⟩)
                    | (go_at_call 10
                       (with_reducible refine hI1.mono ?_)
                       rintro e w6 ⟨rfl, q6, rfl⟩
                       have hCq := hC (1 + q6)
                       have hPq := hP (1 + q6)
                       have hbq : Below w.heap.size w (w5.drewN (1 + q6)) := below_drawn HB5w.out _)
                    | (go_at_call 11
                       (with_reducible refine hCq.mono ?_)
                       rintro e w7 ⟨rfl, rfl⟩)
                    | (go_at_call 12
                       go_must (with_reducible refine hPq.mono ?_)
                       rintro e w7 ⟨fu, rfl, hfs0, hb7⟩
                       have hfs := (hfs0 [] (fun i hi => by cases hi)).sl
                       go_must (obtain ⟨fua, fuc, rfl, -, -⟩ := hfs.form)
                       go_must (have hB7 := below_next hbq hb7)
                       go_must (have hF := rFirst_any l (by rw [← HN.out]; exact hn60) (rows.take s) (by rw [List.length_take]; omega) _ _ w7 (HV.out.below hB7) ((HR.out.below RwP.keeps hB7).takeN HM.out.symm hsm)))
                    | (go_at_call 8
                       (with_reducible refine hF.mono ?_)
                       rintro e w8 ⟨gu, rfl, hb8, hgs⟩
                       obtain ⟨gua, guc, rfl, -, -⟩ := (hgs [] (fun i hi => by cases hi)).form
                       have hI2 := Ints_any (firstL l (rows.take s)) (firstL l (rows.take s)) _ _ w8 (hfs.below hb8) (hgs [] (fun i hi => by cases hi)).sl (by rw [firstL_len, ← HN.out]; omega)))
                have hB58 : Below w5.heap.size w5 (w8.drewN q9) := below_drawn (below_next (below_next (below_drawn (Below.refl w5.heap.size w5) (1 + q6)) hb7) hb8) q9
                have HWE := Lib.hid (HW5.out.below hB58)
                have HFE := Lib.hid ((HF4.out.below HB5.out).below hB58)
                have HBE := Lib.hid (below_next HB5w.out hB58)
                clear hI1 hI2 hF hfs0 hfs hgs hb7 hb8 hB7 hCq hPq hbq hC hP hB58
                go_wp2_with fail
                go_roundw
                case rel => exact ⟨s, rfl, hsm, HBE.out, HWE.out, HFE.out⟩
                case measure => have := HS.out; simp [intOf]; omega
          · clear hrs1
            go_wp2_with fail
            refine (live_any (HG.out.below HB.out)).mono ?_
            rintro e w7 ⟨rfl, hb7⟩
            have HB7 := Lib.hid (below_next HB.out hb7)
            clear hb7
            go_wp2_with fail
            go_ret
            exact ⟨rfl, HB7.out⟩
        · have hte : t = m := by omega
          subst hte
          clear HF3 HW3 HW0
          go_wp2_with fail
          refine (step_nil _ _).mono ?_
          rintro e w4 ⟨rfl, rfl⟩
          go_wp2_with fail
          refine (pFirst_nil _).mono ?_
          rintro e w5 ⟨rfl, rfl⟩
          go_wp2_with fail
          refine (Count_nil _).mono ?_
          rintro e w6 ⟨rfl, rfl⟩
          go_wp2_with fail
          refine (live_any (HG.out.below HB.out)).mono ?_
          rintro e w7 ⟨rfl, hb7⟩
          have HB7 := Lib.hid (below_next HB.out hb7)
          clear hb7
          go_wp2_with fail
          go_ret
          exact ⟨rfl, HB7.out⟩
    · go_enter Tryz.func3, Tryz.ntmps3
      go_wp2_with fail
      refine (live_any HG.out).mono ?_
      rintro e w7 ⟨rfl, hb7⟩
      have HB7 := Lib.hid hb7
      clear hb7
      go_wp2_with fail
      go_ret
      exact ⟨rfl, HB7.out⟩
  · go_enter Tryz.func3, Tryz.ntmps3
    go_wp2_with fail
    refine (live_any HG.out).mono ?_
    rintro e w7 ⟨rfl, hb7⟩
    have HB7 := Lib.hid hb7
    clear hb7
    go_wp2_with fail
    go_ret
    exact ⟨rfl, HB7.out⟩
end Go.Proofs.YtoalnjpeblgkbabGreatDoor
