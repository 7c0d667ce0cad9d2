/- What the law of QwA needs of its own. -/
import Derived.WalkKit
import Derived.WalkSpells
import Derived.Deep.Onto
import Derived.Deep.AppendLies
import Derived.Deep.Draws
import Derived.OwnWalk
import Derived.Test.YtmacepicoandkaaGreatDoorProg
import Derived.Shelf.Abstract
import Derived.Lib.Strings
import Derived.WalkLawsBesides
import Derived.Outline
import Derived.Laws.EntriesVeiled
import Derived.Deep.RegionHeld3
import Derived.Deep.QuietTactic
import Derived.BigQuiet
import Derived.StillTailTactics
import Derived.RegionTactic
import Derived.Lib.Hide
import Derived.Deep.DeepCutAuto
import Derived.Deep.CutBlock
import Derived.Laws.MakeOwn
import Derived.Laws.OwnMore
import Derived.OneCell
import Derived.Maps.Own
import Derived.Lib.AtoiAllCases
import Derived.Lib.AtoiTie
import Derived.Lib.ItoaNum
import Derived.Shelf.Small.Wraps
import Derived.Shelf.Strconv.Atoi
import Derived.Shelf.Strconv.Itoa0
import Derived.Shelf.Strconv.Itoa1
import Derived.Shelf.LaysM
import Derived.Shelf.Strconv.Itoa2
import Derived.Shelf.Strconv.Itoa3
import Derived.Shelf.Strconv.AtoiErrFast
import Derived.Shelf.Strconv.ParseIntEmpty
import Derived.Shelf.Strconv.AtoiFail
import Derived.Shelf.Strconv.Clone
import Derived.Shelf.Strconv.SyntaxError
import Derived.Shelf.LaysC
import Derived.Shelf.Strconv.ToError
import Derived.Shelf.Strconv.AtoiErr
import Derived.Shelf.Strconv.ErrVar
import Derived.Shelf.Strconv.Lower
import Derived.Shelf.Strconv.ParseUint10
import Derived.Shelf.Strconv.ParseUint10Empty
import Derived.Shelf.Strconv.ParseUint10Any
import Derived.Shelf.Strconv.ParseInt10
import Derived.Shelf.Strconv.AtoiLong
import Derived.Shelf.Strconv.AtoiInnerAll
import Derived.Shelf.Strconv.RangeError
import Derived.Shelf.Strconv.ToErrorRange
import Derived.Shelf.Strconv.AtoiAll
import Derived.Shelf.Strconv.ErrVarAll
import Derived.Shelf.Strconv.ParseUintEmpty
import Derived.Shelf.Strconv.ParseUint10b64
import Derived.Shelf.Strconv.ParseUint10b32
import Derived.Shelf.Strconv.ParseUint10b16
import Derived.Shelf.Strconv.ParseUint10b8
import Derived.Shelf.Strconv.ParseUint10At
import Derived.Shelf.Strconv.ParseInt10At64
import Derived.Shelf.Strconv.ParseInt10At32
import Derived.Shelf.Strconv.ParseInt10At16
import Derived.Shelf.Strconv.ParseInt10At8
import Derived.Shelf.Strconv.ParseInt10All
import Derived.Shelf.Strings.Prefix
import Derived.Deep.RegionLaw
import Derived.Laws.IdiomStrings
import Derived.IntWalk
import Derived.Deep.DeepMust
import Derived.ArgAppend
import Derived.Deep.RegionLawGrows
import Derived.Test.YtmacepicoandkaaGreatDoorRows
import Derived.ProofKit
import Derived.OpenShut
import Derived.SizedLaws
import Derived.Lib.SmallJoins
import Derived.Deep.Slices
import Derived.Deep.Matrix
import Derived.ChangeSlices
import Derived.Test.YtmacepicoandkaaGreatDoorTie
import Derived.Lib.LaidU8
import Derived.Lib.LaidTab
import Derived.LaidLaws
import Derived.HandedShaped
import Derived.Lay
import Derived.SevenTiedAt
import Derived.Test.YtmacepicoandkaaGreatDoorJ1
import Derived.Test.YtmacepicoandkaaGreatDoorJ2
import Derived.Test.YtmacepicoandkaaGreatDoorJ3
import Derived.Test.YtmacepicoandkaaGreatDoorJ4
import Derived.Test.YtmacepicoandkaaGreatDoorJ5
import Derived.Test.YtmacepicoandkaaGreatDoorJ6
import Derived.Test.YtmacepicoandkaaGreatDoorJ7
import Derived.Test.YtmacepicoandkaaGreatDoorJ8
import Derived.Test.YtmacepicoandkaaGreatDoorJ9
import Derived.Test.YtmacepicoandkaaGreatDoorJ10
import Derived.Test.YtmacepicoandkaaGreatDoorJ11
import Derived.Test.YtmacepicoandkaaGreatDoorJ12
import Derived.Test.YtmacepicoandkaaGreatDoorJ13
import Derived.Test.YtmacepicoandkaaGreatDoorJ14
import Derived.Test.YtmacepicoandkaaGreatDoorJ15
import Derived.Test.YtmacepicoandkaaGreatDoorJ16
import Derived.Test.YtmacepicoandkaaGreatDoorJ17
import Derived.Test.YtmacepicoandkaaGreatDoorJ18
import Derived.Test.YtmacepicoandkaaGreatDoorJ19
import Derived.Test.YtmacepicoandkaaGreatDoorJ20
import Derived.Test.YtmacepicoandkaaGreatDoorJ21
import Derived.Test.YtmacepicoandkaaGreatDoorJ22
import Derived.Test.YtmacepicoandkaaGreatDoorJ23
import Derived.Test.YtmacepicoandkaaGreatDoorJ24
import Derived.Test.YtmacepicoandkaaGreatDoorJ25
import Derived.Test.YtmacepicoandkaaGreatDoorJ26
import Derived.Test.YtmacepicoandkaaGreatDoorJ27
import Derived.Test.YtmacepicoandkaaGreatDoorJ28
import Derived.Test.YtmacepicoandkaaGreatDoorJ29
import Derived.Test.YtmacepicoandkaaGreatDoorJ30
import Derived.Test.YtmacepicoandkaaGreatDoorJ31
import Derived.Test.YtmacepicoandkaaGreatDoorJ32
import Derived.Test.YtmacepicoandkaaGreatDoorJ33
import Derived.Test.YtmacepicoandkaaGreatDoorJ34
import Derived.Test.YtmacepicoandkaaGreatDoorJ35
import Derived.Test.YtmacepicoandkaaGreatDoorJ36
import Derived.Test.YtmacepicoandkaaGreatDoorJ37
import Derived.Test.YtmacepicoandkaaGreatDoorJ38
import Derived.Test.YtmacepicoandkaaGreatDoorJ39
import Derived.Test.YtmacepicoandkaaGreatDoorJ40
import Derived.Test.YtmacepicoandkaaGreatDoorJ41
import Derived.Test.YtmacepicoandkaaGreatDoorJ42
import Derived.Test.YtmacepicoandkaaGreatDoorJ43
import Derived.Test.YtmacepicoandkaaGreatDoorJ44
import Derived.Test.YtmacepicoandkaaGreatDoorJ45
import Derived.Test.YtmacepicoandkaaGreatDoorJ46
set_option linter.unusedVariables false
set_option linter.unusedSimpArgs false
namespace Go.Proofs.YtmacepicoandkaaGreatDoor
open Go.RowKit Go.Shelf Tx
set_option maxRecDepth 100000 in
set_option maxHeartbeats 2000000 in
theorem Exprs_any (A B:List (List Nd)) (u v:Value) (w:World) (hAl:A.length≤1000000) (hBl:B.length≤1000000) (hA:∀ e∈A,e.length≤1000000000) (hB:∀ e∈B,e.length≤1000000000) (hu:Sg 1 IsL w u A) (hv:Sg 1 IsL w v B) :
  Calls Tryz.prog 12 #[u,v] w fun r w'=>r=.returned (.bool (decide (A=B)))∧∃ k,w'=w.drewN k:=by
 obtain⟨a,c,rfl,hc,hx⟩:=hu.form keepsL
 obtain⟨a2,c2,rfl,hc2,hx2⟩:=hv.form keepsL
 obtain⟨n,hn⟩ : ∃ n,n=A.length:=⟨_,rfl⟩
 obtain⟨m,hm⟩ : ∃ m,m=B.length:=⟨_,rfl⟩
 have HX:=Lib.hid hx
 have HX2:=Lib.hid hx2
 rw[← hn] at hAl hc ⊢
 rw[← hm] at hBl hc2 ⊢
 have HN:=Lib.hid hn
 have HM:=Lib.hid hm
 have HAA:=Lib.hid hA
 have HBB:=Lib.hid hB
 clear hu hv hx hx2 hn hm hA hB
 by_cases hl:n=m
 ·subst hl
  have e0:((n:Int) != (n:Int))=false:=by simp
  go_enter Tryz.func12,Tryz.ntmps12
  go_wp2_with fail
  go_loopw [5] (fun i wr=>∃ t:Nat,i=.int .i64 t∧t≤n∧(∀ j,j<t→A[j]?=B[j]?)∧∃ k,wr=w.drewN k) (fun i _=>n - (intOf i).toNat)
  case atStart=>exact⟨0,rfl,Nat.zero_le _,fun j h=>by omega,0,rfl⟩
  case round =>
   obtain⟨t,rfl,ht,hok,k,hk⟩:=hrel
   by_cases hlt:t<n
   ·obtain⟨x,hx⟩ : ∃ x,A[t]?=some x:=⟨_,List.getElem?_eq_getElem (by have:=HN.out;omega)⟩
    obtain⟨y,hy⟩ : ∃ y,B[t]?=some y:=⟨_,List.getElem?_eq_getElem (by have:=HM.out;omega)⟩
    have hbw:Below w.heap.size w wr:=by rw[hk];exact below_drawn (Below.refl _ _) k
    obtain⟨b,o,cs,rfl,⟨p,rfl,hp⟩,hcell⟩:=HX.out _ hbw t x hx
    obtain⟨b2,o2,cs2,rfl,⟨q,rfl,hq⟩,hcell2⟩:=HX2.out _ hbw t y hy
    have c0:=hcell 0 p rfl
    have d0:=hcell2 0 q rfl
    simp only[Nat.mul_one,Nat.add_zero] at c0 d0
    have hsame:∀ nq,Calls Tryz.prog 34 #[p,q] (wr.drewN nq) fun r w'=>r=.returned (.bool (decide (x=y)))∧∃ k,w'=(wr.drewN nq).drewN k:=fun nq =>
     Same_any x y p q (wr.drewN nq) (HAA.out x (List.mem_of_getElem? hx)) (HBB.out y (List.mem_of_getElem? hy)) (Sl.below hp (below_drawn (Below.refl _ _) nq)) (Sl.below hq (below_drawn (Below.refl _ _) nq))
    obtain⟨d,hd⟩ : ∃ d,d=decide (x=y):=⟨_,rfl⟩
    rw[← hd] at hsame
    obtain⟨pa,pc,rfl,-,-⟩:=hp.form
    obtain⟨qa,qc,rfl,-,-⟩:=hq.form
    have HXX:=Lib.hid hx
    have HYY:=Lib.hid hy
    have HD:=Lib.hid hd
    have HOK:=Lib.hid hok
    have HK:=Lib.hid hk
    have htn:(t:Int)<(n:Int):=by omega
    have ht0:(0:Int)≤(t:Int):=by omega
    clear hx hy hd hok hk hcell hcell2 hbw hp hq
    cases d
    ·have HF:Hid (decide (A=B)=false):=by
      show _=_
      rw[decide_eq_false_iff_not]
      intro h
      have h1:=HXX.out
      rw[h,HYY.out] at h1
      have h2:=HD.out
      rw[Option.some.inj h1] at h2
      simp at h2
     go_wp2_with fail
     go_quiet ((go_at_call 34;exact Calls.quiet_of (hsame _)))
     go_wp2_with fail
     go_ret
     exact⟨ret_bool HF.out.symm,_,by rw[HK.out,World.drewN_drewN]⟩
    ·have HALL:Hid (∀ j,j<t+1→A[j]?=B[j]?):=fun j hj=>by
      by_cases h:j=t
      ·subst h
       rw[HXX.out,HYY.out]
       have:=HD.out
       rw[of_decide_eq_true this.symm]
      ·exact HOK.out j (by omega)
     go_wp2_with fail
     go_quiet ((go_at_call 34;exact Calls.quiet_of (hsame _)))
     go_wp2_with fail
     go_roundw
     case rel=>exact⟨t+1,by go_num,by omega,HALL.out,_,by rw[HK.out,World.drewN_drewN]⟩
     case measure=>simp[intOf];omega
   ·have hte:t=n:=by omega
    subst hte
    have HF:Hid (decide (A=B)=true):=by
     show _=_
     rw[decide_eq_true_iff]
     apply List.ext_getElem?
     intro j
     rcases Nat.lt_or_ge j t with h | h
     ·exact hok j h
     ·rw[List.getElem?_eq_none (by have:=HN.out;omega),List.getElem?_eq_none (by have:=HM.out;omega)]
    have HK:=Lib.hid hk
    clear hok hk
    go_wp2_with fail
    go_ret
    exact⟨ret_bool HF.out.symm,k,HK.out⟩
 ·have e0:((n:Int) != (m:Int))=true:=by rw[bne_iff_ne];omega
  have HF:Hid (decide (A=B)=false):=by
   show _=_
   rw[decide_eq_false_iff_not]
   intro h
   exact hl (by rw[HN.out,HM.out,h])
  clear hl
  go_enter Tryz.func12,Tryz.ntmps12
  go_wp2_with fail
  go_ret
  exact⟨ret_bool HF.out.symm,0,rfl⟩
end Go.Proofs.YtmacepicoandkaaGreatDoor
namespace Go.Proofs.YtmacepicoandkaaGreatDoor
open Go.RowKit
set_option maxRecDepth 20000
set_option maxHeartbeats 400000 in
theorem digit_any (w:World) (row i vars:Nat) (hi:i<vars) (hv:vars≤30) :
  Calls Tryz.prog 84 #[.int .i64 row,.int .i64 i,.int .i64 vars] w fun e w'=>e=.returned (.bool (Dd.rowEnv vars row i))∧w'=w:=by
 have hd:((((row:Int) / 2 ^ (vars - 1 - i)).tmod 2)==1)=Dd.rowEnv vars row i:=by
  unfold Dd.rowEnv
  rw[Nat.testBit_eq_decide_div_mod_eq]
  have e:((row:Int) / 2 ^ (vars - 1 - i)).tmod 2=((row / 2 ^ (vars - 1 - i) % 2:Nat):Int):=by
   rw[Int.tmod_eq_emod_of_nonneg (Int.ediv_nonneg (by omega) (Int.le_of_lt (Int.pow_pos (by decide))))]
   simp
  rw[e,Bool.eq_iff_iff]
  generalize row / 2 ^ (vars - 1 - i) % 2=m
  rw[beq_iff_eq,decide_eq_true_eq]
  omega
 have HD:Hid _:=hd
 clear hd
 go_enter Tryz.func84,Tryz.ntmps84
 go_wp2
 go_ret
 exact⟨by rw[← HD.out];rfl,rfl⟩
theorem pow30 {v:Nat} (h:v≤30):2 ^ v≤1073741824:=Nat.pow_le_pow_right (by omega) h
theorem shl_one {v:Nat} (h:v≤30):IntKind.i64.wrap ((2:Int) ^ v)=((2 ^ v:Nat):Int):=by
 have:=pow30 h
 have e:((2:Int) ^ v)=((2 ^ v:Nat):Int):=by simp
 rw[e]
 generalize 2 ^ v=n at *
 exact IntWalk.i64_in _ (by omega)
theorem rowList_take (vars k j:Nat) (hj:j<vars):(Dd.rowList vars k).take (j+1)=(Dd.rowList vars k).take j++[Dd.rowEnv vars k j]:=by
 have hl:j<(Dd.rowList vars k).length:=by simp[Dd.rowList];exact hj
 rw[List.take_succ_eq_append_getElem hl]
 simp[Dd.rowList]
set_option maxHeartbeats 1000000 in
theorem Row_new (w:World) (k vars:Nat) (hv:vars≤30) :
  Calls Tryz.prog 58 #[.int .i64 k,.int .i64 vars] w fun e w'=>∃ v,e=.returned v∧SlBools w' v (Dd.rowList vars k)∧Below w.heap.size w w'∧(∀ g,v.ownBlock=some g→w.heap.size≤g):=by
 obtain⟨i0,hi,hz0,hz1,hz2⟩:=info_parts infoBool
 go_enter Tryz.func58,Tryz.ntmps58
 go_wp2_with fail
 go_loopw [5,6] (fun v i wr=>∃ j:Nat,j≤vars∧i=.int .i64 j∧wr.ownsRow w.heap.size 4 1 v j (((Dd.rowList vars k).take j).map Value.bool)∧Below w.heap.size w wr) (fun _ i _=>vars - (intOf i).toNat)
 case atStart=>exact⟨0,Nat.zero_le _,rfl,World.ownsRow_nil _ _ _ _,Below.refl _ _⟩
 case round =>
  obtain⟨j,hj,rfl,hown,hB⟩:=hrel
  by_cases hlt:j<vars
  ·have HT:Hid ((Dd.rowList vars k).take (j+1)=(Dd.rowList vars k).take j++[Dd.rowEnv vars k j]):=rowList_take vars k j hlt
   go_wp2_with fail
   refine (digit_any wr k j vars hlt hv).mono ?_
   rintro e w3 ⟨rfl,hw3⟩
   subst hw3
   go_wp2_with (at_builtin;refine wpList_append_own _ rfl _ _ 27 rfl w.heap.size 4 i0 (.bool false) 1 1 Tryz.underlying27 hi hz0 hz1 hz2 rfl (by decide) _ _ _ rfl (hown.alloc _) ⟨w3.heap.size,0,none⟩ 1 1 [.bool (Dd.rowEnv vars k j)] rfl rfl ?c1 ?c2 ?c3 ?c4 ?c5 ?_)
   case c1=>exact World.news_of_block (heap_alloc_new w3 _)
   case c2=>simp[Value.oneCell']
   case c3=>unfold maxLen;omega
   case c4=>omega
   case c5=>have:=hB.size;simp;omega
   intro v' w4 hown4 hgrow4 _
   have hB4:Below w.heap.size w w4:=(hB.alloc hB.size _).grown hgrow4 (by have:=hB.size;simp;omega) (fun q hq=>(hown.lt q hq).1)
   clear hgrow4
   go_wp2_with fail
   go_roundw
   case rel=>exact⟨j+1,by omega,by go_num,by rw[HT.out];simpa using hown4,hB4⟩
   case measure=>simp[intOf];omega
  ·have hje:j=vars:=by omega
   subst hje
   have hT:(Dd.rowList j k).take j=Dd.rowList j k:=List.take_of_length_le (by simp[Dd.rowList])
   rw[hT] at hown
   clear hT
   go_wp2_with fail
   go_ret
   exact⟨_,rfl,SlBools.own' hown (by simp[Dd.rowList]),hB,fun g hg=>(hown.lt g hg).1⟩
end Go.Proofs.YtmacepicoandkaaGreatDoor
namespace Go.Proofs.YtmacepicoandkaaGreatDoor
open Go.RowKit Go.Shelf Tx
set_option maxRecDepth 100000 in
set_option maxHeartbeats 2000000 in
theorem rAll22_any (L : List (List Nd)) (v : Value) (l : List Bool) (lv : Value) (w : World) (hl : L.length ≤ 1000) (hM : ∀ e ∈ L, e.length ≤ 5000) (hal : l.length ≤ 1000) (hv : Sg 1 IsL w v L) (hb : SlBools w lv l) :
    Calls Tryz.prog 59 #[v, lv] w fun r w' => r = .returned (.bool (L.all fun e => (Ux.valA e l).1)) ∧ Below w.heap.size w w' := by
  obtain ⟨a, c, rfl, hc, hx⟩ := rowX hv
  have hval := fun W (hW : Below w.heap.size w W) e (he : e ∈ L) u (hu : IsE W u e) => rVal21_any e u l lv W (by have := hM e he; omega) (by omega) hu (hb.below hW)
  obtain ⟨la, lc, rfl, -⟩ := hb.form
  obtain ⟨n, hn⟩ : ∃ n, n = L.length := ⟨_, rfl⟩
  rw [← hn] at hl hc ⊢
  obtain ⟨ll, hll⟩ : ∃ ll, ll = l.length := ⟨_, rfl⟩
  rw [← hll] at hval ⊢
  have HN := Lib.hid hn
  have HX := Lib.hid hx
  have HVL := Lib.hid hval
  have HM := Lib.hid hM
  obtain ⟨nb, hnb⟩ : ∃ nb, nb = w.heap.size := ⟨_, rfl⟩
  have HNB := Lib.hid hnb
  clear hn hx hval hM hv hb hal hll hnb
  go_enter Tryz.func59, Tryz.ntmps59
  go_wp2_with fail
  go_loopw [5] (fun iv wr => ∃ t : Nat, iv = .int .i64 t ∧ t ≤ n ∧ (∀ (j : Nat) (e : List Nd), j < t → L[j]? = some e → (Ux.valA e l).1 = true) ∧ Below nb w wr) (fun iv _ => n - (intOf iv).toNat)
  case atStart => exact ⟨0, rfl, Nat.zero_le _, (fun j e h => by omega), Below.refl _ _⟩
  case round =>
    obtain ⟨t, rfl, ht, hok, hB⟩ := hrel
    have HOK := Lib.hid hok
    have HB : Hid (Below w.heap.size w wr) := by show Below _ _ _; rw [← HNB.out]; exact hB
    clear hok hB
    by_cases hlt : t < n
    · obtain ⟨e, he⟩ : ∃ e, L[t]? = some e := ⟨_, List.getElem?_eq_getElem (by have := HN.out; omega)⟩
      obtain ⟨b, o, u, rfl, hu, hcell⟩ := HX.out wr HB.out t e he
      have hcall := HVL.out wr HB.out e (List.mem_of_getElem? he) u hu
      obtain ⟨ua, uc, rfl, -, -⟩ := hu.form
      obtain ⟨y, hy⟩ : ∃ y, y = (Ux.valA e l).1 := ⟨_, rfl⟩
      rw [← hy] at hcall
      generalize (Ux.valA e l).2 = er at hcall
      have HY := Lib.hid hy
      have HE := Lib.hid he
      have htn : (t : Int) < (n : Int) := by omega
      have ht0 : (0 : Int) ≤ (t : Int) := by omega
      clear hy he hu
      cases y
      all_goals
        go_wp2_with fail
        refine hcall.mono ?_
        rintro r w3 ⟨rfl, hb3⟩
        have HB3 := Lib.hid (below_next HB.out hb3)
        clear hcall hb3
        first
        | (have HO2 : Hid (∀ (j : Nat) (e : List Nd), j < t + 1 → L[j]? = some e → (Ux.valA e l).1 = true) := fun j e' hj he' => by
             by_cases h : j = t
             · subst h; rw [HE.out] at he'; cases he'; exact HY.out.symm
             · exact HOK.out j e' (by omega) he'
           go_wp2_with fail
           go_roundw
           case rel => exact ⟨t + 1, by go_num, by omega, HO2.out, by rw [HNB.out]; exact HB3.out⟩
           case measure => simp [intOf]; omega)
        | (have HF : Hid ((L.all fun e => (Ux.valA e l).1) = false) := by
             show _ = _
             rw [List.all_eq_false]
             exact ⟨e, List.mem_of_getElem? HE.out, by rw [← HY.out]; decide⟩
           go_wp2_with fail
           go_ret
           exact ⟨by rw [HF.out]; rfl, HB3.out⟩)
    · have hte : t = n := by omega
      subst hte
      have HF : Hid ((L.all fun e => (Ux.valA e l).1) = true) := by
        show _ = _
        rw [List.all_eq_true]
        intro e he
        obtain ⟨j, hj⟩ := List.mem_iff_getElem?.1 he
        rw [HOK.out j e (by have := (List.getElem?_eq_some_iff.1 hj).1; have := HN.out; omega) hj]
      go_wp2_with fail
      go_ret
      exact ⟨by rw [HF.out]; rfl, HB.out⟩
set_option maxRecDepth 100000 in
set_option maxHeartbeats 2000000 in
theorem rAny22_any (L : List (List Nd)) (v : Value) (l : List Bool) (lv : Value) (w : World) (hl : L.length ≤ 1000) (hM : ∀ e ∈ L, e.length ≤ 5000) (hal : l.length ≤ 1000) (hv : Sg 1 IsL w v L) (hb : SlBools w lv l) :
    Calls Tryz.prog 60 #[v, lv] w fun r w' => r = .returned (.bool (L.any fun e => (Ux.valA e l).1)) ∧ Below w.heap.size w w' := by
  obtain ⟨a, c, rfl, hc, hx⟩ := rowX hv
  have hval := fun W (hW : Below w.heap.size w W) e (he : e ∈ L) u (hu : IsE W u e) => rVal21_any e u l lv W (by have := hM e he; omega) (by omega) hu (hb.below hW)
  obtain ⟨la, lc, rfl, -⟩ := hb.form
  obtain ⟨n, hn⟩ : ∃ n, n = L.length := ⟨_, rfl⟩
  rw [← hn] at hl hc ⊢
  obtain ⟨ll, hll⟩ : ∃ ll, ll = l.length := ⟨_, rfl⟩
  rw [← hll] at hval ⊢
  have HN := Lib.hid hn
  have HX := Lib.hid hx
  have HVL := Lib.hid hval
  have HM := Lib.hid hM
  obtain ⟨nb, hnb⟩ : ∃ nb, nb = w.heap.size := ⟨_, rfl⟩
  have HNB := Lib.hid hnb
  clear hn hx hval hM hv hb hal hll hnb
  go_enter Tryz.func60, Tryz.ntmps60
  go_wp2_with fail
  go_loopw [5] (fun iv wr => ∃ t : Nat, iv = .int .i64 t ∧ t ≤ n ∧ (∀ (j : Nat) (e : List Nd), j < t → L[j]? = some e → (Ux.valA e l).1 = false) ∧ Below nb w wr) (fun iv _ => n - (intOf iv).toNat)
  case atStart => exact ⟨0, rfl, Nat.zero_le _, (fun j e h => by omega), Below.refl _ _⟩
  case round =>
    obtain ⟨t, rfl, ht, hok, hB⟩ := hrel
    have HOK := Lib.hid hok
    have HB : Hid (Below w.heap.size w wr) := by show Below _ _ _; rw [← HNB.out]; exact hB
    clear hok hB
    by_cases hlt : t < n
    · obtain ⟨e, he⟩ : ∃ e, L[t]? = some e := ⟨_, List.getElem?_eq_getElem (by have := HN.out; omega)⟩
      obtain ⟨b, o, u, rfl, hu, hcell⟩ := HX.out wr HB.out t e he
      have hcall := HVL.out wr HB.out e (List.mem_of_getElem? he) u hu
      obtain ⟨ua, uc, rfl, -, -⟩ := hu.form
      obtain ⟨y, hy⟩ : ∃ y, y = (Ux.valA e l).1 := ⟨_, rfl⟩
      rw [← hy] at hcall
      generalize (Ux.valA e l).2 = er at hcall
      have HY := Lib.hid hy
      have HE := Lib.hid he
      have htn : (t : Int) < (n : Int) := by omega
      have ht0 : (0 : Int) ≤ (t : Int) := by omega
      clear hy he hu
      cases y
      all_goals
        go_wp2_with fail
        refine hcall.mono ?_
        rintro r w3 ⟨rfl, hb3⟩
        have HB3 := Lib.hid (below_next HB.out hb3)
        clear hcall hb3
        first
        | (have HO2 : Hid (∀ (j : Nat) (e : List Nd), j < t + 1 → L[j]? = some e → (Ux.valA e l).1 = false) := fun j e' hj he' => by
             by_cases h : j = t
             · subst h; rw [HE.out] at he'; cases he'; exact HY.out.symm
             · exact HOK.out j e' (by omega) he'
           go_wp2_with fail
           go_roundw
           case rel => exact ⟨t + 1, by go_num, by omega, HO2.out, by rw [HNB.out]; exact HB3.out⟩
           case measure => simp [intOf]; omega)
        | (have HF : Hid ((L.any fun e => (Ux.valA e l).1) = true) := by
             show _ = _
             rw [List.any_eq_true]
             exact ⟨e, List.mem_of_getElem? HE.out, by rw [← HY.out]⟩
           go_wp2_with fail
           go_ret
           exact ⟨by rw [HF.out]; rfl, HB3.out⟩)
    · have hte : t = n := by omega
      subst hte
      have HF : Hid ((L.any fun e => (Ux.valA e l).1) = false) := by
        show _ = _
        rw [List.any_eq_false]
        intro e he
        obtain ⟨j, hj⟩ := List.mem_iff_getElem?.1 he
        rw [HOK.out j e (by have := (List.getElem?_eq_some_iff.1 hj).1; have := HN.out; omega) hj]; decide
      go_wp2_with fail
      go_ret
      exact ⟨by rw [HF.out]; rfl, HB.out⟩
end Go.Proofs.YtmacepicoandkaaGreatDoor
namespace Go.Proofs.YtmacepicoandkaaGreatDoor
open Go.RowKit Go.Shelf Tx
def FirstPost (vars:Nat) (φ:List Bool→Bool) (w:World) (r:Ending) (w':World):Prop :=
 ∃ v b,r=.returned (.tuple #[v,.bool b])∧Below w.heap.size w w' ∧
  ((b=false∧v=.slice none 0 0∧∀ j,j<2 ^ vars→φ (Dd.rowList vars j)=false)∨(b=true∧∃ k,k<2 ^ vars∧φ (Dd.rowList vars k)=true∧(∀ j,j<k→φ (Dd.rowList vars j)=false)∧SlBools w' v (Dd.rowList vars k)))∧(∀ g,v.ownBlock=some g→w.heap.size≤g)
set_option maxRecDepth 100000 in
set_option maxHeartbeats 2000000 in
theorem gap_any (A B:List (List Nd)) (va vb:Value) (vars:Nat) (w:World) (hvars:vars≤8) (hAl:A.length≤1000) (hBl:B.length≤1000) (hAM:∀ e∈A,e.length≤5000) (hBM:∀ e∈B,e.length≤5000) (hA:Sg 1 IsL w va A) (hB:Sg 1 IsL w vb B) :
  Calls Tryz.prog 31 #[va,vb,.int .i64 vars] w (FirstPost vars (satV A B) w):=by
 have hall:=fun (W:World) (hW:Below w.heap.size w W) (l:List Bool) (lv:Value) (hl:l.length≤1000) (hb:SlBools W lv l)=>rAll22_any A va l lv W hAl hAM hl (hA.below keepsL hW) hb
 have hany:=fun (W:World) (hW:Below w.heap.size w W) (l:List Bool) (lv:Value) (hl:l.length≤1000) (hb:SlBools W lv l)=>rAny22_any B vb l lv W hBl hBM hl (hB.below keepsL hW) hb
 obtain⟨a,c,rfl,-,-⟩:=hA.form keepsL
 obtain⟨b,d,rfl,-,-⟩:=hB.form keepsL
 have HALL:=Lib.hid hall
 have HANY:=Lib.hid hany
 have hsh:=shl_one (v:=vars) (by omega)
 have hp:=pow30 (v:=vars) (by omega)
 obtain⟨P2,hP2⟩ : ∃ P2,P2=2 ^ vars:=⟨_,rfl⟩
 rw[← hP2] at hsh hp
 have HP2:=Lib.hid hP2
 obtain⟨nb,hnb⟩ : ∃ nb,nb=w.heap.size:=⟨_,rfl⟩
 have HNB:=Lib.hid hnb
 generalize A.length=al at *
 generalize B.length=bl at *
 clear hA hB hAM hBM hall hany hP2 hnb hAl hBl
 go_enter Tryz.func31,Tryz.ntmps31
 go_wp2_with fail
 go_loopw [8] (fun iv wr=>∃ k:Nat,iv=.int .i64 k∧k≤P2∧(∀ j,j<k→satV A B (Dd.rowList vars j)=false)∧Below nb w wr) (fun iv _=>P2 - (intOf iv).toNat)
 case atStart=>exact⟨0,rfl,Nat.zero_le _,(fun j h=>by omega),Below.refl _ _⟩
 case round =>
  obtain⟨k,rfl,hk,hno,hB⟩:=hrel
  have HNO:=Lib.hid hno
  have HB:Hid (Below w.heap.size w wr):=by show Below _ _ _;rw[← HNB.out];exact hB
  clear hno hB
  by_cases hlt:k<P2
  ·have hrow:=Row_new wr k vars (by omega)
   go_wp2_with fail
   refine hrow.mono ?_
   rintro r w9 ⟨av,rfl,hav,hb9,hfa⟩
   have HFA:=Lib.hid (fun g (hg:av.ownBlock=some g)=>Nat.le_trans HB.out.size (hfa g hg))
   have hb09:=below_next HB.out hb9
   have hlenr:(Dd.rowList vars k).length=vars:=by simp[Dd.rowList]
   have h1:=HALL.out w9 hb09 (Dd.rowList vars k) av (by rw[hlenr];omega) hav
   have h2:=fun W (hW:Below w9.heap.size w9 W)=>HANY.out W (below_next hb09 hW) (Dd.rowList vars k) av (by rw[hlenr];omega) (hav.below hW)
   obtain⟨la,lc,rfl,-⟩:=hav.form
   have HAV:Hid (SlBools w9 (.slice la vars lc) (Dd.rowList vars k)):=by show SlBools _ _ _;have h:=hav;rw[hlenr] at h;exact h
   obtain⟨y,hy⟩ : ∃ y,y=(A.all fun e=>(Ux.valA e (Dd.rowList vars k)).1):=⟨_,rfl⟩
   obtain⟨z,hz⟩ : ∃ z,z=(B.any fun e=>(Ux.valA e (Dd.rowList vars k)).1):=⟨_,rfl⟩
   rw[← hy] at h1
   rw[← hz] at h2
   have HS:Hid (satV A B (Dd.rowList vars k)=(y && !z)):=by show _=_;rw[hy,hz];rfl
   rw[hlenr] at h1 h2 HFA ⊢
   have H2:=Lib.hid h2
   have HB09:=Lib.hid hb09
   clear hrow hfa hav hb9 hb09 hlenr h2 hy hz
   have HNO2:Hid ((y && !z)=false→∀ j,j<k+1→satV A B (Dd.rowList vars j)=false):=fun h j hj=>by
    by_cases e:j=k
    ·subst e;rw[HS.out];exact h
    ·exact HNO.out j (by omega)
   cases y
   ·have HN3:=Lib.hid (HNO2.out rfl)
    go_wp2_with fail
    refine h1.mono ?_
    rintro r w10 ⟨rfl,hb10⟩
    have HB10:=Lib.hid (below_next HB09.out hb10)
    clear h1 hb10
    go_wp2_with fail
    go_roundw
    case rel=>exact⟨k+1,by go_num,by omega,HN3.out,by rw[HNB.out];exact HB10.out⟩
    case measure=>simp[intOf];omega
   ·go_wp2_with fail
    refine h1.mono ?_
    rintro r w10 ⟨rfl,hb10⟩
    have HB10:=Lib.hid hb10
    clear h1 hb10
    go_wp2_with fail
    refine (H2.out w10 HB10.out).mono ?_
    rintro r w11 ⟨rfl,hb11⟩
    have HB11:=Lib.hid (below_next (below_next HB09.out HB10.out) hb11)
    have HAV11:=Lib.hid (HAV.out.below (below_next HB10.out hb11))
    clear hb11
    cases z
    ·go_wp2_with fail
     go_ret2
     exact⟨_,true,rfl,HB11.out,Or.inr ⟨rfl,k,by rw[← HP2.out];exact hlt,HS.out,HNO.out,HAV11.out⟩,HFA.out⟩
    ·have HN3:=Lib.hid (HNO2.out rfl)
     go_wp2_with fail
     go_roundw
     case rel=>exact⟨k+1,by go_num,by omega,HN3.out,by rw[HNB.out];exact HB11.out⟩
     case measure=>simp[intOf];omega
  ·have hke:k=P2:=by omega
   subst hke
   go_wp2_with fail
   go_ret2
   exact⟨_,false,rfl,HB.out,Or.inl ⟨rfl,rfl,fun j hj=>HNO.out j (by rw[HP2.out];exact hj)⟩,fun g hg=>by cases hg⟩
set_option maxRecDepth 100000 in
set_option maxHeartbeats 2000000 in
theorem both_any (A:List (List Nd)) (x y:List Nd) (va vx vy:Value) (vars:Nat) (w:World) (hvars:vars≤8) (hAl:A.length≤1000) (hxl:x.length≤5000) (hyl:y.length≤5000) (hAM:∀ e∈A,e.length≤5000) (hA:Sg 1 IsL w va A) (hx:IsE w vx x) (hy:IsE w vy y) :
  Calls Tryz.prog 33 #[va,vx,vy,.int .i64 vars] w (FirstPost vars (satV2 A x y) w):=by
 have hall:=fun (W:World) (hW:Below w.heap.size w W) (l:List Bool) (lv:Value) (hl:l.length≤1000) (hb:SlBools W lv l)=>rAll22_any A va l lv W hAl hAM hl (hA.below keepsL hW) hb
 have hany:=fun (W:World) (hW:Below w.heap.size w W) (l:List Bool) (lv:Value) (hl:l.length≤1000) (hb:SlBools W lv l) =>
  rAll22_any [x,y] (.slice (some ⟨W.heap.size,0,none⟩) 2 2) l lv (W.alloc (.cells #[vx,vy] 54)) (by simp) (fun e he=>by simp at he;rcases he with rfl | rfl;exact hxl;exact hyl) hl (lit2E (Sl.below hx hW) (Sl.below hy hW)) (hb.below ((Below.refl W.heap.size W).alloc (Nat.le_refl _) _))
 obtain⟨a,c,rfl,-,-⟩:=hA.form keepsL
 obtain⟨xa,xc,rfl,-,-⟩:=hx.form
 obtain⟨ya,yc,rfl,-,-⟩:=hy.form
 have HALL:=Lib.hid hall
 have HANY:=Lib.hid hany
 have hsh:=shl_one (v:=vars) (by omega)
 have hp:=pow30 (v:=vars) (by omega)
 obtain⟨P2,hP2⟩ : ∃ P2,P2=2 ^ vars:=⟨_,rfl⟩
 rw[← hP2] at hsh hp
 have HP2:=Lib.hid hP2
 obtain⟨nb,hnb⟩ : ∃ nb,nb=w.heap.size:=⟨_,rfl⟩
 have HNB:=Lib.hid hnb
 generalize A.length=al at *
 generalize x.length=xl at *
 generalize y.length=yl at *
 clear hA hx hy hAM hall hany hP2 hnb hAl hxl hyl
 go_enter Tryz.func33,Tryz.ntmps33
 go_wp2_with fail
 go_loopw [10] (fun iv wr=>∃ k:Nat,iv=.int .i64 k∧k≤P2∧(∀ j,j<k→satV2 A x y (Dd.rowList vars j)=false)∧Below nb w wr) (fun iv _=>P2 - (intOf iv).toNat)
 case atStart=>exact⟨0,rfl,Nat.zero_le _,(fun j h=>by omega),Below.refl _ _⟩
 case round =>
  obtain⟨k,rfl,hk,hno,hB⟩:=hrel
  have HNO:=Lib.hid hno
  have HB:Hid (Below w.heap.size w wr):=by show Below _ _ _;rw[← HNB.out];exact hB
  clear hno hB
  by_cases hlt:k<P2
  ·have hrow:=Row_new wr k vars (by omega)
   go_wp2_with fail
   refine hrow.mono ?_
   rintro r w9 ⟨av,rfl,hav,hb9,hfa⟩
   have HFA:=Lib.hid (fun g (hg:av.ownBlock=some g)=>Nat.le_trans HB.out.size (hfa g hg))
   have hb09:=below_next HB.out hb9
   have hlenr:(Dd.rowList vars k).length=vars:=by simp[Dd.rowList]
   have h1:=HALL.out w9 hb09 (Dd.rowList vars k) av (by rw[hlenr];omega) hav
   have h2:=fun W (hW:Below w9.heap.size w9 W)=>HANY.out W (below_next hb09 hW) (Dd.rowList vars k) av (by rw[hlenr];omega) (hav.below hW)
   obtain⟨la,lc,rfl,-⟩:=hav.form
   have HAV:Hid (SlBools w9 (.slice la vars lc) (Dd.rowList vars k)):=by show SlBools _ _ _;have h:=hav;rw[hlenr] at h;exact h
   obtain⟨p,hp1⟩ : ∃ p,p=(A.all fun e=>(Ux.valA e (Dd.rowList vars k)).1):=⟨_,rfl⟩
   obtain⟨z,hz⟩ : ∃ z,z=([x,y].all fun e=>(Ux.valA e (Dd.rowList vars k)).1):=⟨_,rfl⟩
   rw[← hp1] at h1
   rw[← hz] at h2
   have HS:Hid (satV2 A x y (Dd.rowList vars k)=(p&&z)):=by show _=_;rw[hp1,hz];rfl
   rw[hlenr] at h1 h2 HFA ⊢
   have H2:=Lib.hid h2
   have HB09:=Lib.hid hb09
   clear hrow hfa hav hb9 hb09 hlenr h2 hp1 hz
   have HNO2:Hid ((p&&z)=false→∀ j,j<k+1→satV2 A x y (Dd.rowList vars j)=false):=fun h j hj=>by
    by_cases e:j=k
    ·subst e;rw[HS.out];exact h
    ·exact HNO.out j (by omega)
   cases p
   ·have HN3:=Lib.hid (HNO2.out rfl)
    go_wp2_with fail
    refine h1.mono ?_
    rintro r w10 ⟨rfl,hb10⟩
    have HB10:=Lib.hid (below_next HB09.out hb10)
    clear h1 hb10
    go_wp2_with fail
    go_roundw
    case rel=>exact⟨k+1,by go_num,by omega,HN3.out,by rw[HNB.out];exact HB10.out⟩
    case measure=>simp[intOf];omega
   ·go_wp2_with fail
    refine h1.mono ?_
    rintro r w10 ⟨rfl,hb10⟩
    have HB10:=Lib.hid hb10
    clear h1 hb10
    go_wp2_with fail
    refine (H2.out w10 HB10.out).mono ?_
    rintro r w11 ⟨rfl,hb11⟩
    have hbx:=below_next ((Below.refl w10.heap.size w10).alloc (Nat.le_refl _) (.cells #[.slice xa xl xc,.slice ya yl yc] 54)) hb11
    have HB11:=Lib.hid (below_next (below_next HB09.out HB10.out) hbx)
    have HAV11:=Lib.hid (HAV.out.below (below_next HB10.out hbx))
    clear hbx
    clear hb11
    cases z
    ·have HN3:=Lib.hid (HNO2.out rfl)
     go_wp2_with fail
     go_roundw
     case rel=>exact⟨k+1,by go_num,by omega,HN3.out,by rw[HNB.out];exact HB11.out⟩
     case measure=>simp[intOf];omega
    ·go_wp2_with fail
     go_ret2
     exact⟨_,true,rfl,HB11.out,Or.inr ⟨rfl,k,by rw[← HP2.out];exact hlt,HS.out,HNO.out,HAV11.out⟩,HFA.out⟩
  ·have hke:k=P2:=by omega
   subst hke
   go_wp2_with fail
   go_ret2
   exact⟨_,false,rfl,HB.out,Or.inl ⟨rfl,rfl,fun j hj=>HNO.out j (by rw[HP2.out];exact hj)⟩,fun g hg=>by cases hg⟩
end Go.Proofs.YtmacepicoandkaaGreatDoor
namespace Go.Proofs.YtmacepicoandkaaGreatDoor
open Go.RowKit Go.Shelf Tx
def RRepIs (l:List It) (base:Nat) (rep:Array Value) (W:World):Prop :=
 ∃ (am mo ga pa:Value) (ex:Int),rep=#[am,mo,.int .i64 ex,ga,pa]∧Sg 1 IsL W am (if knownL l=true then (splitR (everyL l)).1 else [])∧Sl strC 1 W mo (nmsL l) ∧
  RefV (rKnown l) (splitR (everyL l)).1.length (phiE l) ex ga W ∧
  PRow 46 (fun p vd v W=>RefV (rKnown l) (splitR (everyL l)).1.length (phiP l p) vd v W) base W pa (prs (reqL l).length)
def RCheckPost (l : List It) (bud : Int) (w : World) (r : Ending) (w' : World) : Prop :=
  Below w.heap.size w w' ∧ ∃ (er : Int) (rep : Array Value), r = .returned (.tuple #[.agg rep, .int .i64 er]) ∧
    ((er = 1 ∧ badL l bud ∧ rep = #[.slice none 0 0, .slice none 0 0, .int .i64 0, .slice none 0 0, .slice none 0 0]) ∨
     (er = 0 ∧ ¬ badL l bud ∧ RRepIs l w.heap.size rep w'))
theorem rowRPair:RowTy Tryz.prog 34 46 4 48:=RowTy.mk' (z:=.agg #[.int .i64 0,.int .i64 0,.int .i64 0,.slice none 0 0]) Tryz.underlying34 (by kernel_rfl) rfl (by omega)
set_option maxRecDepth 100000 in
theorem rverdict_any (b:Bool) (w:World):Calls Tryz.prog 32 #[.bool b] w fun r w'=>r=.returned (.int .i64 (if b=true then 2 else 1))∧w'=w:=by
 cases b
 all_goals
  go_enter Tryz.func32,Tryz.ntmps32
  go_wp2_with fail
  go_ret
  exact⟨rfl,rfl⟩
set_option maxRecDepth 100000 in
set_option maxHeartbeats 8000000 in
theorem rCheck_any (l:List It) (v:Value) (bud:Int) (w:World) (hl:l.length≤30) (hM:∀ x∈l,x.e.length≤200) (hv:Sg 6 IsIt w v l) :
  Calls Tryz.prog 10 #[v,.int .i64 bud] w (RCheckPost l bud w):=by
 have nb1:=(Below.refl w.heap.size w).alloc (Nat.le_refl _) (.cells #[.slice none 0 0,.slice none 0 0,.int .i64 0,.slice none 0 0,.slice none 0 0] 36)
 have hpa:=fun W (hW:Below w.heap.size w W)=>rParts_any l v W (by omega) (hv.below keepsIt hW)
 obtain⟨a0,c0,rfl,hc0,-⟩:=hv.form keepsIt
 have HM:=Lib.hid hM
 have HPA:=Lib.hid hpa
 obtain⟨n,hn⟩ : ∃ n,n=(asmL l).length:=⟨_,rfl⟩
 obtain⟨m,hm⟩ : ∃ m,m=(reqL l).length:=⟨_,rfl⟩
 have hnl:n≤30:=by have:=asm_len l;omega
 have hml:m≤30:=by have:=req_len l;omega
 have HN:=Lib.hid hn
 have HMM:=Lib.hid hm
 obtain⟨ln,hln⟩ : ∃ ln,ln=l.length:=⟨_,rfl⟩
 rw[← hln] at hl hc0 HPA ⊢
 have HLN:=Lib.hid hln
 obtain⟨hz,hhz⟩ : ∃ hz,hz=w.heap.size:=⟨_,rfl⟩
 have HHZ:=Lib.hid hhz
 clear hv hM hpa hn hm hln hhz
 go_enter Tryz.func10,Tryz.ntmps10
 go_wp2_with fail
 have hcall:=HPA.out _ nb1
 refine hcall.mono ?_
 rintro r w1 ⟨va,vr,vn,rfl,hP⟩
 generalize hW0:w.alloc (.cells #[.slice none 0 0,.slice none 0 0,.int .i64 0,.slice none 0 0,.slice none 0 0] 36)=W0 at nb1 hP
 have hk1:Blk W0 hz #[.slice none 0 0,.slice none 0 0,.int .i64 0,.slice none 0 0,.slice none 0 0] 36:=by
  have h0:=Blk.new w #[.slice none 0 0,.slice none 0 0,.int .i64 0,.slice none 0 0,.slice none 0 0] 36
  rw[hW0] at h0;rw[HHZ.out];exact h0
 have hpb:=hP.below
 have hra:=hP.ra
 have hrr:=hP.rr
 have hrn:=hP.rn
 rw[List.take_length] at hra hrr hrn
 have hsa:=hra.sg hpb
 have hsr:=hrr.sg hpb
 obtain⟨so,c1,hva,hcc1⟩:=hra.form
 rw[← HN.out] at hva hcc1
 subst hva
 obtain⟨xo,c2,hvr,hcc2⟩:=hrr.form
 rw[← HMM.out] at hvr hcc2
 subst hvr
 obtain⟨-,us,hUS⟩:=rowV hsa
 obtain⟨-,vs,hVS⟩:=rowV hsr
 obtain⟨na,nc,hvn,hncc,-⟩:=(names_sl hrn).form
 have hnml:(nmsL l).length=m:=by rw[HMM.out];exact nms_len l
 rw[hnml] at hvn hncc
 subst hvn
 have HK1:=Lib.hid hk1
 have HB0:=Lib.hid nb1
 have HPB:=Lib.hid hpb
 have HSA:=Lib.hid hsa
 have HRN:=Lib.hid hrn
 have HUS:=Lib.hid hUS
 have HVS:=Lib.hid hVS
 have HHH:Hid (W0.heap.size=w.heap.size+1):=by show _=_;rw[← hW0];simp
 clear hW0 nb1 hP hpb hra hrr hrn hsa hsr hUS hVS hcall hk1 hnml
 go_wp2_with (at_builtin;refine wpList_join rowE rfl _ _ rfl none so 0 n c1 [] us rfl rfl rfl (by rw[HUS.out.len];exact HN.out.symm) (by omega) (fun _=>rfl) (fun b hb=>by cases hb) (fun j u hj=>?c1) HUS.out.one ?c2)
 case c1 =>
  cases so with
  | none =>
   have h2:us.length=0:=by rw[HUS.out.len,HUS.out.none rfl];rfl
   have h3:=(List.getElem?_eq_some_iff.1 hj).1
   omega
  | some ad=>exact⟨ad,rfl,HUS.out.cell ad rfl j u hj⟩
 case c2 =>
  intro v2 w2 hb2 hj
  have ho2:w2.ownsRow w1.heap.size 54 1 v2 n us:=by
   rcases hj with ⟨h1,h2⟩ | h
   ·have h3:n=0:=by have:=HUS.out.len;rw[h1] at this;rw[HN.out,← this];rfl
    rw[h1,h2,h3];exact World.ownsRow_nil _ _ _ _
   ·simpa using h
  have HO2:=Lib.hid ho2
  have HB2:=Lib.hid hb2
  have HVS2:=Lib.hid (HVS.out.below hb2)
  clear hj ho2 hb2
  have hvform:∃ a c,v2=.slice a n c:=by
   rcases HO2.out.2 with ⟨h,h0⟩ | ⟨g,cap,cur,h,_⟩
   ·exact⟨none,0,by rw[h,h0]⟩
   ·exact⟨_,cap,h⟩
  obtain⟨ea,ec,hv2⟩:=hvform
  subst hv2
  go_wp2_with (at_builtin;refine wpList_join_own rowE rfl _ _ rfl w1.heap.size (.slice ea n ec) n us rfl HO2.out xo m c2 vs rfl (by rw[HVS2.out.len];exact HMM.out.symm) (by omega) HB2.out.size (fun j u hj=>?c3) HVS2.out.one ?c4)
  case c3 =>
   cases xo with
   | none =>
    have h2:vs.length=0:=by rw[HVS2.out.len,HVS2.out.none rfl];rfl
    have h3:=(List.getElem?_eq_some_iff.1 hj).1
    omega
   | some ad=>exact⟨ad,rfl,HVS2.out.cell ad rfl j u hj⟩
  case c4 =>
   intro v3 w3 ho3 hg3 hf3
   have hb13:Below w1.heap.size w1 w3:=HB2.out.grown hg3 HB2.out.size (fun k hk=>(HO2.out.lt k hk).1)
   have hjs:Sg 1 IsL w3 v3 (everyL l):=joined (T:=54) (m:=m) HUS.out HSA.out (fun i u e hu he=>HVS.out.isE i u e hu he) HVS.out.len hb13 (Or.inr ho3)
   have HEL:Hid ((everyL l).length=n+m):=by show _=_;unfold everyL;rw[List.length_append,← HN.out,← HMM.out]
   obtain⟨ja,jc,hv3,hjc,hjx⟩:=hjs.form keepsL
   rw[HEL.out] at hv3 hjc
   subst hv3
   have HJS:=Lib.hid hjs
   have HJX:=Lib.hid hjx
   have HB13:=Lib.hid hb13
   have HB03:=Lib.hid (below_next HPB.out hb13)
   clear ho3 hg3 hf3 hb13 hjs hjx HVS HUS HSA HVS2 HO2 HB2
   go_wp2_with fail
   go_loopw [10] (fun iv wr=>∃ t:Nat,iv=.int .i64 t∧t≤n+m∧(∀ (j:Nat) (e:List Nd),j<t→(everyL l)[j]?=some e→mayB e=true)∧Below w3.heap.size w3 wr) (fun iv _=>n+m - (intOf iv).toNat)
   case atStart=>exact⟨0,rfl,Nat.zero_le _,fun j e h=>by omega,Below.refl _ _⟩
   case round =>
    obtain⟨t,rfl,ht,hok,hB⟩:=hrel
    have HOK:=Lib.hid hok
    have HB:=Lib.hid hB
    clear hok hB
    by_cases hlt:t<n+m
    ·obtain⟨e,he⟩ : ∃ e,(everyL l)[t]?=some e:=⟨_,List.getElem?_eq_getElem (by have:=HEL.out;omega)⟩
     obtain⟨b,o,cs,rfl,⟨u,rfl,hu⟩,hcell⟩:=HJX.out wr HB.out t e he
     have hc:=hcell 0 u rfl
     simp only[Nat.mul_one,Nat.add_zero] at hc
     have hlen:e.length≤200:=every_len HM.out e (List.mem_of_getElem? he)
     have hmay:=rMay_any e u wr (by omega) hu
     obtain⟨ua,uc,rfl,-,-⟩:=hu.form
     obtain⟨q,hq⟩ : ∃ q,q=mayB e:=⟨_,rfl⟩
     rw[← hq] at hmay
     have HQ:=Lib.hid hq
     have HEE:=Lib.hid he
     have htn:(t:Int)<((n+m:Nat):Int):=by omega
     have htn2:(t:Int)<(n:Int)+(m:Int):=by omega
     have ht0:(0:Int)≤(t:Int):=by omega
     clear hcell hu he hq hlen
     cases q
     ·have HBAD:Hid (badL l bud):=Or.inl (by rw[List.any_eq_true];exact⟨e,List.mem_of_getElem? HEE.out,by rw[← HQ.out];rfl⟩)
      go_wp2_with fail
      refine hmay.mono ?_
      rintro r w5 ⟨rfl,hb5⟩
      have hb05:=below_next HB03.out (below_next HB.out hb5)
      have hk5:=HK1.out.below hb05
      have HB5:=Lib.hid (HB0.out.trans (hb05.mono (by rw[HHH.out];omega)))
      clear hmay hb05 hb5
      obtain⟨p0,p1,p2,p3,p4⟩:=five_cells hk5
      have f0:=hk5.free
      rw[← HHZ.out]
      clear hk5
      go_wp2_with fail
      refine bodyPost_ret (v:=.tuple #[.agg #[.slice none 0 0,.slice none 0 0,.int .i64 0,.slice none 0 0,.slice none 0 0],.int .i64 1]) (by simp[results,Tryz.results10,go_sem,p0,p1,p2,p3,p4]) rfl ⟨?_,1,_,rfl,Or.inl ⟨rfl,HBAD.out,rfl⟩⟩
      have hzz:w.heap.size≤hz:=by rw[HHZ.out];exact Nat.le_refl _
      exact ((((HB5.out.setCell hzz _).setCell hzz _).setCell hzz _).setCell hzz _).setCell hzz _
     ·have HOK2:Hid (∀ (j:Nat) (e:List Nd),j<t+1→(everyL l)[j]?=some e→mayB e=true):=fun j e' hj he'=>by
       by_cases h:j=t
       ·subst h;rw[HEE.out] at he';cases he';exact HQ.out.symm
       ·exact HOK.out j e' (by omega) he'
      go_wp2_with fail
      refine hmay.mono ?_
      rintro r w5 ⟨rfl,hb5⟩
      have HB5:=Lib.hid (below_next HB.out hb5)
      clear hmay hb5
      go_wp2_with fail
      go_roundw
      case rel=>exact⟨t+1,by go_num,by omega,HOK2.out,HB5.out⟩
      case measure=>simp[intOf];omega
    ·have hte:t=n+m:=by omega
     subst hte
     obtain⟨w5,hw5⟩ : ∃ w5,w5=wr:=⟨_,rfl⟩
     have hb05:=below_next HB03.out HB.out
     have hk5:=HK1.out.below hb05
     rw[← hw5] at hk5 hb05 HB ⊢
     clear hw5
     have HB5:=Lib.hid (HB0.out.trans (hb05.mono (by rw[HHH.out];omega)))
     have HK5:=Lib.hid hk5
     have HB05:=Lib.hid hb05
     clear hb05
     by_cases hb2:bud<2
     ·have HBAD:Hid (badL l bud):=Or.inr (Or.inl hb2)
      obtain⟨p0,p1,p2,p3,p4⟩:=five_cells hk5
      have f0:=hk5.free
      rw[← HHZ.out]
      clear hk5
      go_wp2_with fail
      refine bodyPost_ret (v:=.tuple #[.agg #[.slice none 0 0,.slice none 0 0,.int .i64 0,.slice none 0 0,.slice none 0 0],.int .i64 1]) (by simp[results,Tryz.results10,go_sem,p0,p1,p2,p3,p4]) rfl ⟨?_,1,_,rfl,Or.inl ⟨rfl,HBAD.out,rfl⟩⟩
      have hzz:w.heap.size≤hz:=by rw[HHZ.out];exact Nat.le_refl _
      exact ((((HB5.out.setCell hzz _).setCell hzz _).setCell hzz _).setCell hzz _).setCell hzz _
     ·by_cases hb1:10000<bud
      ·have HBAD:Hid (badL l bud):=Or.inr (Or.inr hb1)
       have hb2':2≤bud:=by omega
       obtain⟨p0,p1,p2,p3,p4⟩:=five_cells hk5
       have f0:=hk5.free
       rw[← HHZ.out]
       clear hk5
       go_wp2_with fail
       refine bodyPost_ret (v:=.tuple #[.agg #[.slice none 0 0,.slice none 0 0,.int .i64 0,.slice none 0 0,.slice none 0 0],.int .i64 1]) (by simp[results,Tryz.results10,go_sem,p0,p1,p2,p3,p4]) rfl ⟨?_,1,_,rfl,Or.inl ⟨rfl,HBAD.out,rfl⟩⟩
       have hzz:w.heap.size≤hz:=by rw[HHZ.out];exact Nat.le_refl _
       exact ((((HB5.out.setCell hzz _).setCell hzz _).setCell hzz _).setCell hzz _).setCell hzz _
      ·have hb2':2≤bud:=by omega
       have hb1':bud≤10000:=by omega
       have HGOOD:Hid (¬ badL l bud):=fun h=>by
        rcases h with h | h | h
        ·rw[List.any_eq_true] at h
         obtain⟨e,he,h2⟩:=h
         obtain⟨j,hj⟩:=List.mem_iff_getElem?.1 he
         rw[HOK.out j e (by have:=(List.getElem?_eq_some_iff.1 hj).1;have:=HEL.out;omega) hj] at h2
         cases h2
        ·exact hb2 h
        ·exact hb1 h
       have hz5:hz<w5.heap.size:=hk5.lt
       clear hk5 hb2 hb1
       have hsp:=R.Split_any (everyL l) (.slice ja (n+m) jc) w5 (by have:=HEL.out;omega) (fun e he=>Nat.le_trans (every_len HM.out e he) (by omega)) (HJS.out.below keepsL HB.out)
       rw[← HHZ.out]
       go_wp2_with fail
       refine hsp.mono ?_
       rintro r w6 ⟨fv,ov,rfl,hfv,hov,hb6⟩
       obtain⟨fa,fc,rfl,hfc,-⟩:=rowX (sg_of_rwe hfv)
       have HFW:=Lib.hid hfv
       obtain⟨vr,hvr⟩ : ∃ vr,vr=(splitR (everyL l)).1.length:=⟨_,rfl⟩
       rw[← hvr] at hfc HFW ⊢
       have HVR:=Lib.hid hvr
       obtain⟨er,her0⟩ : ∃ er,er=(splitR (everyL l)).2.2:=⟨_,rfl⟩
       rw[← her0]
       have HER:=Lib.hid her0
       have hov0:=sg_of_rwe hov
       have hovF:∃ oa oc,ov=.slice oa (splitR (everyL l)).2.1.length oc∧(splitR (everyL l)).2.1.length≤oc∧((oa=none∧(splitR (everyL l)).2.1.length=0∧oc=0)∨∃ g,oa=some ⟨g,0,none⟩):=by
        obtain⟨us,h1,_⟩:=hov.row
        rcases ownF_row h1 with ⟨h2,h3⟩ | ⟨g,c,h2,h3⟩
        ·exact⟨none,0,by rw[h2,h3],by omega,Or.inl ⟨rfl,h3,rfl⟩⟩
        ·exact⟨_,c,h2,h3,Or.inr ⟨g,rfl⟩⟩
       obtain⟨oa,oc,rfl,hoc,hoF⟩:=hovF
       have HB6:=Lib.hid hb6
       have HOV:=Lib.hid hov0
       clear hsp hfv hov hb6 hvr her0 hov0
       by_cases her:er=0
       ·have e0:(er==0)=true:=by simp[her]
        have HKN:Hid (knownL l=true):=by show _=_;unfold knownL;rw[← HER.out];exact e0
        have hPF:=putF_of (every_len HM.out) (by rw[← HER.out];exact her)
        have hol:(splitR (everyL l)).2.1.length=n+m:=by rw[hPF.outs];exact HEL.out
        have HOL:Hid (n+m=(splitR (everyL l)).2.1.length):=hol.symm
        have HOM:Hid (∀ e∈(splitR (everyL l)).2.1,e.length≤5000):=fun e he=>(outs_may (every_len HM.out) (by rw[← HER.out];exact her) e he).2.1
        rw[hol] at hoc hoF HOV ⊢
        have HOF:=Lib.hid hoF
        clear hoF
        clear hPF hol
        by_cases h8:vr≤8
        ·have e8:(vr:Int)≤8:=by omega
         have HRK:Hid (rKnown l=true):=by show _=_;unfold rKnown;rw[HKN.out,← HVR.out];simp[h8]
         clear her
         go_upto_region 18 with fail
         obtain⟨W9,hW9⟩ : ∃ W9,W9=w6.alloc (.cells #[.slice fa vr fc,.slice na m nc,.int .i64 3,.slice none 0 0,.slice none 0 0] 36):=⟨_,rfl⟩
         obtain⟨sb,hsb⟩ : ∃ sb,sb=w6.heap.size:=⟨_,rfl⟩
         have hrep:=Blk.new w6 #[.slice fa vr fc,.slice na m nc,.int .i64 3,.slice none 0 0,.slice none 0 0] 36
         have hb69:=(Below.refl w6.heap.size w6).alloc (Nat.le_refl _) (.cells #[.slice fa vr fc,.slice na m nc,.int .i64 3,.slice none 0 0,.slice none 0 0] 36)
         have hz9:W9.heap.size=sb+1:=by rw[hW9,hsb];simp
         rw[← hW9] at hrep hb69 ⊢
         rw[← hsb] at hrep ⊢
         have HR9:Hid (Blk W9 sb #[.slice fa vr fc,.slice na m nc,.int .i64 3,.slice none 0 0,.slice none 0 0] 36):=hrep
         have HB69:=Lib.hid hb69
         have HSB:=Lib.hid hsb
         have HS9:=Lib.hid hz9
         clear hW9 hsb hrep hb69 hz9
         go_cut [16,17] (fun av bv wx=>∃ (b:Bool) (ga:Option Addr) (gn gc:Nat),av=.slice ga gn gc∧bv=.bool b∧Below W9.heap.size W9 wx∧FirstIs vr (phiE l) b (.slice ga gn gc) wx∧(∀ ad,ga=some ad→W9.heap.size≤ad.block∧ad.block<wx.heap.size))
         case first =>
          rcases HOF.out with ⟨h1,h2,h3⟩ | ⟨g,h1⟩
          ·obtain rfl:n=0:=by omega
           obtain rfl:m=0:=by omega
           have hov:(splitR (everyL l)).2.1=[]:=List.eq_nil_of_length_eq_zero (by have:=HOL.out;omega)
           have hcl:=fun W=>gap_any [] [] (.slice none 0 0) (.slice none 0 0) vr W h8 (by simp) (by simp) (by simp) (by simp) Sg.nil_ Sg.nil_
           have hphi:phiE l=satV [] []:=by unfold phiE;rw[hov];simp
           subst h1 h3
           go_region_held3 (fun _=>True) (exact trivial)
            ((go_at_call 31;refine (hcl _).mono ?_;rintro r w10 ⟨gv,b,rfl,hb10,hfi,hnew⟩;have hfi2:FirstIs vr (satV [] []) b gv w10:=hfi;obtain⟨ga,gn,gc,rfl,hga⟩:=hfi2.form))
           go_wp2_with fail
           go_meet
           exact⟨b,ga,gn,gc,rfl,rfl,below_next (Below.refl _ W9).drew hb10,by rw[hphi];exact hfi2,fun ad had=>by subst had;exact⟨hnew _ rfl,(hga _ rfl).1⟩⟩
          ·subst h1
           have hsoW:=fun W (hW:Below W9.heap.size W9 W)=>HOV.out.below keepsL (below_next HB69.out hW)
           have hn0:(0:Int)≤(n:Int):=by omega
           have hnm:(n:Int)≤((n+m:Nat):Int):=by omega
           have hi2:(n:Int)≤(oc:Int):=by omega
           have hi3:(n:Int)≤(n:Int)+(m:Int):=by omega
           have hi4:(n:Int)+(m:Int)≤(oc:Int):=by omega
           have hi5:n≤n+m:=by omega
           have hi6:n≤oc:=by omega
           have hlt9:((splitR (everyL l)).2.1.take n).length≤1000:=by rw[List.length_take];omega
           have hld:((splitR (everyL l)).2.1.drop n).length≤1000:=by rw[List.length_drop];have:=HOL.out;omega
           have hmt:∀ e∈(splitR (everyL l)).2.1.take n,e.length≤5000:=fun e he=>HOM.out e (List.mem_of_mem_take he)
           have hmd:∀ e∈(splitR (everyL l)).2.1.drop n,e.length≤5000:=fun e he=>HOM.out e (List.mem_of_mem_drop he)
           have hphi:phiE l=satV ((splitR (everyL l)).2.1.take n) ((splitR (everyL l)).2.1.drop n):=by unfold phiE;rw[← HN.out]
           have HPHI:=Lib.hid hphi
           clear hphi
           by_cases hcc:oc=n
           ·subst hcc
            obtain rfl:m=0:=by omega
            have hcl:=fun W (hW:Below W9.heap.size W9 W)=>gap_any ((splitR (everyL l)).2.1.take oc) ((splitR (everyL l)).2.1.drop oc) (.slice (some ⟨g,0,none⟩) oc oc) (.slice (some ⟨g,0,none⟩) 0 0) vr W h8 hlt9 hld hmt hmd (sg_take (hsoW W hW) HOL.out (by omega) (Nat.le_refl _)) (by rw[List.drop_of_length_le (by have:=HOL.out;omega)];exact⟨[],Or.inl ⟨rfl,_,_,rfl⟩,rfl,fun i c x hc _=>by simp at hc⟩)
            have HSW:=Lib.hid hsoW
            clear hsoW
            have hBd:Below W9.heap.size W9 W9.drew:=(Below.refl _ _).drew
            go_region_held3 (fun _=>True) (exact trivial)
             ((go_at_call 31;refine (hcl _ (by first | exact hBd | exact Below.refl _ _)).mono ?_;rintro r w10 ⟨gv,b,rfl,hb10,hfi,hnew⟩;have hfi2:FirstIs vr (satV ((splitR (everyL l)).2.1.take oc) ((splitR (everyL l)).2.1.drop oc)) b gv w10:=hfi;obtain⟨ga,gn,gc,rfl,hga⟩:=hfi2.form))
            go_wp2_with fail
            go_meet
            exact⟨b,ga,gn,gc,rfl,rfl,below_next (Below.refl _ W9).drew hb10,by rw[HPHI.out];exact hfi2,fun ad had=>by subst had;exact⟨hnew _ rfl,(hga _ rfl).1⟩⟩
           ·have hcl:=fun W (hW:Below W9.heap.size W9 W)=>gap_any ((splitR (everyL l)).2.1.take n) ((splitR (everyL l)).2.1.drop n) (.slice (some ⟨g,0,none⟩) n oc) (.slice (some ⟨g,n,none⟩) (n+m - n) (oc - n)) vr W h8 hlt9 hld hmt hmd (sg_take (hsoW W hW) HOL.out (by omega) (by omega)) (sg_drop (hsoW W hW) HOL.out (by omega) (by omega))
            have hmm:n+m - n=m:=by omega
            rw[hmm] at hcl
            have HSW:=Lib.hid hsoW
            clear hsoW hmm
            have hBd:Below W9.heap.size W9 W9.drew:=(Below.refl _ _).drew
            go_region_held3 (fun _=>True) (exact trivial)
             ((go_at_call 31;refine (hcl _ (by first | exact hBd | exact Below.refl _ _)).mono ?_;rintro r w10 ⟨gv,b,rfl,hb10,hfi,hnew⟩;have hfi2:FirstIs vr (satV ((splitR (everyL l)).2.1.take n) ((splitR (everyL l)).2.1.drop n)) b gv w10:=hfi;obtain⟨ga,gn,gc,rfl,hga⟩:=hfi2.form))
            go_wp2_with fail
            go_meet
            exact⟨b,ga,gn,gc,rfl,rfl,below_next (Below.refl _ W9).drew hb10,by rw[HPHI.out];exact hfi2,fun ad had=>by subst had;exact⟨hnew _ rfl,(hga _ rfl).1⟩⟩
         case rest =>
          obtain⟨bx,ga,gn,gc,rfl,rfl,hbx,hfi,hgb⟩:=hcut
          obtain⟨Wc,rfl⟩ : ∃ Wc:World,Wc=wc:=⟨_,rfl⟩
          have hrepc:=HR9.out.below hbx
          obtain⟨y0,y1,y2,y3,y4⟩:=five_cells hrepc
          have fyc:=hrepc.free
          obtain⟨ex,hex⟩ : ∃ ex:Int,ex=(if bx=true then 2 else 1):=⟨_,rfl⟩
          have hver:=fun W=>rverdict_any bx W
          simp only[← hex] at hver
          have HBX:=Lib.hid hbx
          have HEX:=Lib.hid hex
          have HFI:=Lib.hid hfi
          have HGC:=Lib.hid hgb
          have HRC:=Lib.hid hrepc
          clear hbx hex hfi hgb hrepc
          go_wp2_with fail
          refine (hver _).mono ?_
          rintro r w7 ⟨rfl,hw7⟩
          subst hw7
          go_wp2_with fail
          have HRX:Hid (Blk ((w7.setCell ⟨sb,2,none⟩ (.int .i64 ex)).setCell ⟨sb,3,none⟩ (.slice ga gn gc)) sb #[.slice fa vr fc,.slice na m nc,.int .i64 ex,.slice ga gn gc,.slice none 0 0] 36):=(HRC.out.seti 2 _).seti 3 _
          have HFR:Hid (Fr (fun k=>k=sb) W9 ((w7.setCell ⟨sb,2,none⟩ (.int .i64 ex)).setCell ⟨sb,3,none⟩ (.slice ga gn gc))):=((Fr.of_below HBX.out (fun k=>k=sb)).trans (Fr.of_set w7 sb 2 _) (fun _ _ q=>q)).trans (Fr.of_set _ sb 3 _) (fun _ _ q=>q)
          have hs7:((w7.setCell ⟨sb,2,none⟩ (.int .i64 ex)).setCell ⟨sb,3,none⟩ (.slice ga gn gc)).heap.size=w7.heap.size:=by simp
          have HGB:Hid (∀ ad,ga=some ad→W9.heap.size≤ad.block∧ad.block<((w7.setCell ⟨sb,2,none⟩ (.int .i64 ex)).setCell ⟨sb,3,none⟩ (.slice ga gn gc)).heap.size):=fun ad had=>by rw[hs7];exact HGC.out ad had
          have HVE:Hid (RefV (rKnown l) vr (phiE l) ex (.slice ga gn gc) ((w7.setCell ⟨sb,2,none⟩ (.int .i64 ex)).setCell ⟨sb,3,none⟩ (.slice ga gn gc))):=by
           show RefV _ _ _ _ _ _
           rw[HRK.out];unfold RefV;rw[if_pos rfl]
           refine⟨bx,HEX.out,HFI.out.kept (by rw[hs7];exact Nat.le_refl _) fun a n c e=>?_⟩
           cases e
           have h1:=HGC.out _ rfl
           have h3:=HS9.out
           rw[Below.heap_setCell _ _ _ _ (by show _≠sb;omega),Below.heap_setCell _ _ _ _ (by show _≠sb;omega)]
          have HXS:Hid (sb<((w7.setCell ⟨sb,2,none⟩ (.int .i64 ex)).setCell ⟨sb,3,none⟩ (.slice ga gn gc)).heap.size):=by show _<_;rw[hs7];have:=HBX.out.size;have:=HS9.out;omega
          clear y0 y1 y2 y3 y4 fyc hver hs7
          generalize (w7.setCell ⟨sb,2,none⟩ (.int .i64 ex)).setCell ⟨sb,3,none⟩ (.slice ga gn gc)=Wx at HRX HFR HGB HVE HXS ⊢
          have HQK:=Lib.hid (RefV.keeps true vr (phiP l))
          have hstart:PAt 36 46 sb #[.slice fa vr fc,.slice na m nc,.int .i64 ex,.slice ga gn gc] (fun p vd v W=>RefV true vr (phiP l p) vd v W) Wx (prsAt m 0 1) Wx:=PAt.start _ _ _ _ _ _ HRX.out
          go_loopw [18] (fun iv wr=>∃ i:Nat,iv=.int .i64 i∧i≤m∧PAt 36 46 sb #[.slice fa vr fc,.slice na m nc,.int .i64 ex,.slice ga gn gc] (fun p vd v W=>RefV true vr (phiP l p) vd v W) Wx (prsAt m i (i+1)) wr) (fun iv _=>m - (intOf iv).toNat)
          case atStart=>exact⟨0,rfl,Nat.zero_le _,hstart⟩
          case round =>
           obtain⟨i,rfl,hi,hP⟩:=hrel
           have HP:=Lib.hid hP
           clear hstart hP
           by_cases hlt:i<m
           ·go_wp2_with fail
            go_loopw [19] (fun jv wr=>∃ j:Nat,jv=.int .i64 j∧i+1≤j∧j≤m∧PAt 36 46 sb #[.slice fa vr fc,.slice na m nc,.int .i64 ex,.slice ga gn gc] (fun p vd v W=>RefV true vr (phiP l p) vd v W) Wx (prsAt m i j) wr) (fun jv _=>m - (intOf jv).toNat)
            case atStart=>exact⟨i+1,by go_num,Nat.le_refl _,by omega,HP.out⟩
            case round =>
             obtain⟨j,rfl,hij,hj,hP2⟩:=hrel
             have HP2:=Lib.hid hP2
             clear hP2
             by_cases hlt2:j<m
             ·obtain⟨pa,hfr2,hrep2,hpr⟩:=HP2.out
              obtain⟨g,hg⟩ : ∃ g,oa=some ⟨g,0,none⟩:=by
               rcases HOF.out with ⟨_,h2,_⟩ | h
               ·omega
               ·exact h
              subst hg
              have hbel:Below sb W9 wr:=(HFR.out.trans hfr2 (fun _ _ q=>q)).belowB (by rw[HS9.out];omega)
              have hbel6:Below w6.heap.size w6 wr:=HB69.out.trans (hbel.mono (by have:=HSB.out;omega))
              obtain⟨xe,hxe⟩ : ∃ xe,(splitR (everyL l)).2.1[n+i]?=some xe:=⟨_,List.getElem?_eq_getElem (by have:=HOL.out;omega)⟩
              obtain⟨ye,hye⟩ : ∃ ye,(splitR (everyL l)).2.1[n+j]?=some ye:=⟨_,List.getElem?_eq_getElem (by have:=HOL.out;omega)⟩
              have hSW:=HOV.out.below keepsL hbel6
              obtain⟨a',c',e',-,hfx⟩:=hSW.form keepsL
              rw[← HOL.out] at e'
              cases e'
              have hget:∀ (k:Nat) (e:List Nd),(splitR (everyL l)).2.1[k]?=some e→∃ xa xc,IsE wr (.slice xa e.length xc) e∧wr.cell? ⟨g,k,none⟩=some (.slice xa e.length xc):=by
               intro k e hk
               obtain⟨b,o,cs,e1,⟨u,rfl,hu⟩,hc⟩:=hfx wr (Below.refl _ _) k e hk
               cases e1
               obtain⟨xa,xc,rfl,-,-⟩:=hu.form
               refine⟨xa,xc,hu,?_⟩
               have h:=hc 0 _ rfl
               simpa using h
              obtain⟨xa,xc,hx,hxc⟩:=hget (n+i) xe hxe
              obtain⟨ya,yc,hy,hyc⟩:=hget (n+j) ye hye
              have hT:=sg_take (n:=n) (c:=oc) hSW HOL.out (by omega) (by omega)
              have hphi:phiP l (i,j)=satV2 ((splitR (everyL l)).2.1.take n) xe ye:=by
               unfold phiP
               simp only[← HN.out]
               rw[List.getD_eq_getElem?_getD,List.getD_eq_getElem?_getD,hxe,hye];rfl
              have hcl:=fun W (hW:Below wr.heap.size wr W)=>both_any ((splitR (everyL l)).2.1.take n) xe ye (.slice (some ⟨g,0,none⟩) n oc) (.slice xa xe.length xc) (.slice ya ye.length yc) vr W h8 (by rw[List.length_take];omega) (HOM.out _ (List.mem_of_getElem? hxe)) (HOM.out _ (List.mem_of_getElem? hye)) (fun e he=>HOM.out e (List.mem_of_mem_take he)) (hT.below keepsL hW) (Sl.below hx hW) (Sl.below hy hW)
              obtain⟨xl,hxl⟩ : ∃ xl,xl=xe.length:=⟨_,rfl⟩
              obtain⟨yl,hyl⟩ : ∃ yl,yl=ye.length:=⟨_,rfl⟩
              rw[← hxl] at hcl hxc
              rw[← hyl] at hcl hyc
              have HCL:=Lib.hid hcl
              have HPHI:=Lib.hid hphi
              have HPR:=Lib.hid hpr
              have HFX:=Lib.hid hfr2
              have HRB:=Lib.hid hrep2
              have hgs:g<wr.heap.size:=World.block_lt_of_cell? wr _ hxc
              clear hx hy hT hpr hfr2 hrep2 hbel hbel6 hSW hfx hget hxl hyl hcl hphi hxe hye
              go_upto_region 29 with fail
              obtain⟨W1,hW1⟩ : ∃ W1,W1=wr.alloc (.cells #[.int .i64 i,.int .i64 j,.int .i64 3,.slice none 0 0] 46):=⟨_,rfl⟩
              obtain⟨pb,hpb⟩ : ∃ pb,pb=wr.heap.size:=⟨_,rfl⟩
              have hkP:=Blk.new wr #[.int .i64 i,.int .i64 j,.int .i64 3,.slice none 0 0] 46
              have hb1:=(Below.refl wr.heap.size wr).alloc (Nat.le_refl _) (.cells #[.int .i64 i,.int .i64 j,.int .i64 3,.slice none 0 0] 46)
              rw[← hW1] at hkP hb1 ⊢
              rw[← hpb] at hkP ⊢
              have HPB2:=Lib.hid hpb
              have HKP:Hid (Blk W1 pb #[.int .i64 i,.int .i64 j,.int .i64 3,.slice none 0 0] 46):=hkP
              have HB1w:=Lib.hid hb1
              have HZ1:Hid (W1.heap.size=pb+1):=by show _=_;rw[hW1,hpb];simp
              have HS:Hid (∀ W,Below wr.heap.size wr W→W.cell? ⟨g,n+i,none⟩=some (.slice xa xl xc)∧W.cell? ⟨g,n+j,none⟩=some (.slice ya yl yc)):=fun W h=>⟨(h.cell (p:=⟨g,n+i,none⟩) hgs).trans hxc,(h.cell (p:=⟨g,n+j,none⟩) hgs).trans hyc⟩
              have hi0:(0:Int)≤(n:Int):=by omega
              have hi1:(n:Int)≤(oc:Int):=by omega
              have hi2:(n:Int)≤(n:Int)+(m:Int):=by omega
              obtain⟨p1,hp1⟩ : ∃ p1,p1=n+i:=⟨_,rfl⟩
              obtain⟨p2,hp2⟩ : ∃ p2,p2=n+j:=⟨_,rfl⟩
              have hi3:(0:Int)≤(p1:Int):=by omega
              have hi4:(p1:Int)<(n:Int)+(m:Int):=by omega
              have hi5:(0:Int)≤(p2:Int):=by omega
              have hi6:(p2:Int)<(n:Int)+(m:Int):=by omega
              have HP1:=Lib.hid hp1
              have HP22:=Lib.hid hp2
              rw[← hp1,← hp2] at HS
              have HNIJ:Hid (n+i≤1000∧n+j≤1000):=⟨by omega,by omega⟩
              clear hp1 hp2 hW1 hpb hkP hb1 hxc hyc hgs
              have hKA:=HS.out W1 HB1w.out
              have hBd:Below wr.heap.size wr W1.drew:=HB1w.out.drew
              have hKA2:=HS.out _ hBd
              obtain⟨hw1,hw3⟩:=w64_add HP1.out HNIJ.out.1
              obtain⟨hw2,hw4⟩:=w64_add HP22.out HNIJ.out.2
              go_region_held3 (fun w'=>w'.cell? ⟨g,p1,none⟩=some (.slice xa xl xc)∧w'.cell? ⟨g,p2,none⟩=some (.slice ya yl yc))
               (first | exact hKA | exact hKA2 | exact hKD)
               ((go_at_call 33;(with_reducible refine (HCL.out _ (by first | exact hBd | exact HB1w.out)).mono ?_);rintro r w10 ⟨gv,b,rfl,hb10,hfi,hnew⟩;have hfi2:FirstIs vr (satV2 ((splitR (everyL l)).2.1.take n) xe ye) b gv w10:=hfi;obtain⟨ga2,gn2,gc2,rfl,hga2⟩:=hfi2.form;have hbD:Below wr.heap.size wr w10:=below_next hBd hb10;have hKD:=HS.out _ hbD))
              obtain⟨vd,hvd⟩ : ∃ vd:Int,vd=(if b=true then 2 else 1):=⟨_,rfl⟩
              have hver:=fun W=>rverdict_any b W
              simp only[← hvd] at hver
              have hkp:=HKP.out.below (below_next (Below.refl _ W1).drew hb10)
              obtain⟨k0,k1,k2,k3⟩:=four_cells hkp
              have hfz:=hkp.free
              have HFI:=Lib.hid hfi2
              have HVD:=Lib.hid hvd
              have HBD:=Lib.hid hbD
              have HKP2:=Lib.hid hkp
              have HNEW:Hid (∀ ad,ga2=some ad→W1.heap.size≤ad.block∧ad.block<w10.heap.size):=fun ad had=>by subst had;exact⟨hnew _ rfl,(hga2 _ rfl).1⟩
              clear hvd hbD hfi hfi2 hnew hga2 hb10 hKD hKA hKA2 hBd hw1 hw2 hw3 hw4 hkp
              go_wp2_with fail
              refine (hver _).mono ?_
              rintro r w11 ⟨rfl,hw11⟩
              subst hw11
              go_upto_region 32 with fail
              have hP12:Blk ((w11.setCell ⟨pb,2,none⟩ (.int .i64 vd)).setCell ⟨pb,3,none⟩ (.slice ga2 gn2 gc2)) pb #[.int .i64 i,.int .i64 j,.int .i64 vd,.slice ga2 gn2 gc2] 46:=(HKP2.out.seti 2 _).seti 3 _
              have hpw:wr.heap.size≤pb:=by rw[HPB2.out];exact Nat.le_refl _
              have hsb12:Below wr.heap.size wr ((w11.setCell ⟨pb,2,none⟩ (.int .i64 vd)).setCell ⟨pb,3,none⟩ (.slice ga2 gn2 gc2)):=(HBD.out.setCell hpw _).setCell hpw _
              have hs12:((w11.setCell ⟨pb,2,none⟩ (.int .i64 vd)).setCell ⟨pb,3,none⟩ (.slice ga2 gn2 gc2)).heap.size=w11.heap.size:=by simp
              have hv12:RefV true vr (phiP l (i,j)) vd (.slice ga2 gn2 gc2) ((w11.setCell ⟨pb,2,none⟩ (.int .i64 vd)).setCell ⟨pb,3,none⟩ (.slice ga2 gn2 gc2)):=by
               unfold RefV;rw[if_pos rfl,HPHI.out]
               refine⟨b,HVD.out,HFI.out.kept (by rw[hs12];exact Nat.le_refl _) fun a n c e=>?_⟩
               cases e
               have h1:=HNEW.out _ rfl
               have h3:=HZ1.out
               rw[Below.heap_setCell _ _ _ _ (by show _≠pb;omega),Below.heap_setCell _ _ _ _ (by show _≠pb;omega)]
              have hga12:∀ ad,ga2=some ad→wr.heap.size≤ad.block∧ad.block<((w11.setCell ⟨pb,2,none⟩ (.int .i64 vd)).setCell ⟨pb,3,none⟩ (.slice ga2 gn2 gc2)).heap.size:=fun ad had=>by
               have h1:=HNEW.out ad had
               have h3:=HZ1.out
               exact⟨by omega,by rw[hs12];exact h1.2⟩
              have HK12:=Lib.hid hP12
              clear hP12 hs12 k0 k1 k2 k3 hfz hver hpw
              generalize (w11.setCell ⟨pb,2,none⟩ (.int .i64 vd)).setCell ⟨pb,3,none⟩ (.slice ga2 gn2 gc2)=W12 at hsb12 hv12 hga12 HK12 ⊢
              have hba:Below W12.heap.size W12 (W12.alloc (.cells #[.int .i64 i,.int .i64 j,.int .i64 vd,.slice ga2 gn2 gc2] 46)):=(Below.refl _ _).alloc (Nat.le_refl _) _
              have hpr12:=HPR.out.kept HQK.out (below_next hsb12 hba).size fun k _ hk=>(below_next hsb12 hba).block k hk
              have hrep12:Blk W12 sb #[.slice fa vr fc,.slice na m nc,.int .i64 ex,.slice ga gn gc,pa] 36:=HRB.out.below hsb12
              obtain⟨r0,r1,r2,r3,r4⟩:=five_cells hrep12
              have fr12:=hrep12.free
              obtain⟨k0,k1,k2,k3⟩:=four_cells HK12.out
              have HS12:=Lib.hid hsb12
              have HV12:=Lib.hid hv12
              have HG12:=Lib.hid hga12
              have HR12:=Lib.hid hrep12
              have HPF:=Lib.hid HPR.out.form
              obtain⟨q,hq⟩ : ∃ q,q=(prsAt m i j).length:=⟨_,rfl⟩
              have HQL:=Lib.hid hq
              have hq1000:q≤1000:=by rw[hq];exact prsAt_len hml (by omega) (by omega)
              obtain⟨cs,hcs1,hcs2,hcs3,hcs4⟩:=hpr12
              rw[← hq] at hcs1 hcs2
              have HC1:=Lib.hid hcs1
              have HC2:=Lib.hid hcs2
              have HC3:=Lib.hid hcs3
              have HC4:=Lib.hid hcs4
              have hxs12:Wx.heap.size≤W12.heap.size:=Nat.le_trans HFX.out.size hsb12.size
              clear hsb12 hv12 hga12 hrep12 hba hq hcs1 hcs2 hcs3 hcs4
              go_wp2_with (at_builtin;refine wpList_app rowRPair rfl _ _ rfl Wx.heap.size pa q (cs.flatMap id) rfl HC1.out ⟨W12.heap.size,0,none⟩ 1 [.int .i64 i,.int .i64 j,.int .i64 vd,.slice ga2 gn2 gc2] rfl rfl (World.news_of_block (cs:=#[.int .i64 i,.int .i64 j,.int .i64 vd,.slice ga2 gn2 gc2]) (t:=46) (fr:=(0,0)) (heap_alloc_new W12 _)) (by simp[Value.oneCell']) (by omega) (by simp;omega) (W12.heap.size+1) (by simp) ?_)
              intro gg cap w13 hown hgrow hat hlt13 hcap13
              have hpaB:∀ k,pa.ownBlock=some k→Wx.heap.size≤k∧k<wr.heap.size:=fun k hk=>by
               rcases HPF.out with h | ⟨g',c',h,h1,h2⟩
               ·rw[h] at hk;cases hk
               ·rw[h] at hk;cases hk;exact⟨h1,h2⟩
              have hxs:=HXS.out
              have hrx:=HFX.out.size
              have h12r:=HS12.out.size
              have hb13:Blk w13 sb #[.slice fa vr fc,.slice na m nc,.int .i64 ex,.slice ga gn gc,pa] 36:=by
               have h1:=HR12.out.lt
               exact (hgrow.block sb (by simp;omega) (fun e=>by have:=(hpaB _ e.symm).1;omega)).trans ((Below.heap_alloc _ _ _ h1).trans HR12.out)
              have hP13:PRow 46 (fun p vd v W=>RefV true vr (phiP l p) vd v W) Wx.heap.size w13 (.slice (some ⟨gg,0,none⟩) (q+1) cap) (prsAt m i j++[(i,j)]):=by
               have hown':=hown
               rw[HQL.out] at hown' ⊢
               refine PRow.push HQK.out (by rw[← HQL.out];exact HC2.out) HC3.out HC4.out (HV12.out.kept (by simp) fun a n c e=>by cases e <;> exact Below.heap_alloc _ _ _ (HG12.out _ rfl).2) (fun ad had=>?_) (by rw[List.flatMap_id];exact hown') hgrow ?_
               ·have h1:=HG12.out ad had
                refine⟨by omega,by simp;omega,fun e=>?_⟩
                have h2:=hpaB _ e
                omega
               ·rcases hat with h | h
                ·exact Or.inl h
                ·exact Or.inr (by rw[h];simp)
              have hBX:Below Wx.heap.size wr w13:=((HS12.out.mono hrx).alloc hxs12 _).grown hgrow (by simp;omega) (fun k hk=>(hpaB k hk).1)
              obtain⟨r0',r1',r2',r3',r4'⟩:=five_cells hb13
              have fr13:=hb13.free
              have HB13:=Lib.hid hb13
              have HP13:=Lib.hid hP13
              have HBX:=Lib.hid hBX
              clear hb13 hP13 hBX hown hgrow hat k0 k1 k2 k3 r0 r1 r2 r3 r4 fr12 hpaB
              go_wp2_with fail
              have HPN:Hid (PAt 36 46 sb #[.slice fa vr fc,.slice na m nc,.int .i64 ex,.slice ga gn gc] (fun p vd v W=>RefV true vr (phiP l p) vd v W) Wx (prsAt m i (j+1)) (w13.setCell ⟨sb,4,none⟩ (.slice (some ⟨gg,0,none⟩) (q+1) cap))):=by
               rw[prsAt_snoc hij]
               refine⟨_,(HFX.out.trans (S':=fun k=>Wx.heap.size≤k) ⟨HBX.out.os,HBX.out.tape,HBX.out.output,HBX.out.size,fun k _ hn=>HBX.out.block k (by omega)⟩ (fun k hk h=>by omega)).trans (Fr.of_set w13 sb 4 _) (fun _ _ q=>q),HB13.out.seti 4 _,?_⟩
               exact HP13.out.kept HQK.out (by simp) fun k hk _=>Below.heap_setCell _ _ _ _ (by show k≠sb;omega)
              clear fr13 r0' r1' r2' r3' r4'
              go_roundw
              case rel=>exact⟨j+1,by go_num,by omega,by omega,HPN.out⟩
              case measure=>simp[intOf];omega
             ·have hje:j=m:=by omega
              have HP3:Hid (PAt 36 46 sb #[.slice fa vr fc,.slice na m nc,.int .i64 ex,.slice ga gn gc] (fun p vd v W=>RefV true vr (phiP l p) vd v W) Wx (prsAt m (i+1) (i+2)) wr):=by have h:=HP2.out;rw[hje,prsAt_next] at h;exact h
              subst hje
              go_wp2_with fail
              go_roundw
              case rel=>exact⟨i+1,by go_num,by omega,HP3.out⟩
              case measure=>simp[intOf];omega
           ·have hie:i=m:=by omega
            subst hie
            obtain⟨pa,hfr2,hrep2,hpr⟩:=HP.out
            rw[prsAt_full] at hpr
            obtain⟨px,pn,pc,rfl⟩ : ∃ x n c,pa=.slice x n c:=by
             rcases hpr.form with h | ⟨g,c,h,_⟩
             ·exact⟨_,_,_,h⟩
             ·exact⟨_,_,_,h⟩
            have hrep3:Blk wr sb #[.slice fa vr fc,.slice na i nc,.int .i64 ex,.slice ga gn gc,.slice px pn pc] 36:=hrep2
            have hbel:Below sb W9 wr:=(HFR.out.trans hfr2 (fun _ _ q=>q)).belowB (by rw[HS9.out];omega)
            have hbel6:Below w6.heap.size w6 wr:=HB69.out.trans (hbel.mono (by have:=HSB.out;omega))
            have hkz:=(HK5.out.below HB6.out).below hbel6
            obtain⟨p0,p1,p2,p3,p4⟩:=five_cells hkz
            have f0:=hkz.free
            obtain⟨z0,z1,z2,z3,z4⟩:=five_cells hrep3
            have HBW:Hid (Below w.heap.size w wr):=below_next (below_next HB5.out HB6.out) hbel6
            have HB6r:=Lib.hid hbel6
            have HFX:=Lib.hid hfr2
            have HPR:=Lib.hid hpr
            have HZS:Hid (hz<w5.heap.size):=hz5
            clear hfr2 hrep2 hpr hrep3 hbel hbel6 hkz
            go_wp2_with fail
            refine bodyPost_ret (v:=.tuple #[.agg #[.slice fa vr fc,.slice na i nc,.int .i64 ex,.slice ga gn gc,.slice px pn pc],.int .i64 0]) (by simp[results,Tryz.results10,go_sem,p0,p1,p2,p3,p4]) rfl ⟨?_,0,_,rfl,Or.inr ⟨rfl,HGOOD.out,?_⟩⟩
            ·have hzz:w.heap.size≤hz:=by rw[HHZ.out];exact Nat.le_refl _
             exact ((((HBW.out.setCell hzz _).setCell hzz _).setCell hzz _).setCell hzz _).setCell hzz _
            ·have hset:=fun k (hk:k≠hz)=>five_set wr hz (.slice fa vr fc) (.slice na i nc) (.int .i64 ex) (.slice ga gn gc) (.slice px pn pc) k hk
             have hsize:(((((wr.setCell ⟨hz,0,none⟩ (.slice fa vr fc)).setCell ⟨hz,1,none⟩ (.slice na i nc)).setCell ⟨hz,2,none⟩ (.int .i64 ex)).setCell ⟨hz,3,none⟩ (.slice ga gn gc)).setCell ⟨hz,4,none⟩ (.slice px pn pc)).heap.size=wr.heap.size:=by simp
             generalize (((((wr.setCell ⟨hz,0,none⟩ (.slice fa vr fc)).setCell ⟨hz,1,none⟩ (.slice na i nc)).setCell ⟨hz,2,none⟩ (.int .i64 ex)).setCell ⟨hz,3,none⟩ (.slice ga gn gc)).setCell ⟨hz,4,none⟩ (.slice px pn pc))=W' at hset hsize ⊢
             have hzw:=HHZ.out
             have h6s:=HB6.out.size
             have h9s:=HB69.out.size
             have h9z:=HS9.out
             have hxs:=HFR.out.size
             have hrs:=HFX.out.size
             have hz5':=HZS.out
             have hsb':=HSB.out
             refine⟨_,_,_,_,_,rfl,?_,?_,?_,?_⟩
             ·rw[HKN.out]
              rw[if_pos rfl];exact sg_of_rwe (HFW.out.kept fun k hk hl=>(hset k (by omega)).trans (HB6r.out.block k hl))
             ·refine names_sl (base:=W0.heap.size) (row_kept HRN.out fun k hk _ hl=>(hset k (by have:=HHH.out;omega)).trans ?_)
              exact (below_next (below_next (below_next HB13.out HB.out) HB6.out) HB6r.out).block k hl
             ·rw[← HVR.out]
              exact (HVE.out.kept (by omega:Wx.heap.size≤W'.heap.size) fun a n c e=>by
               cases e <;> first
               | (have h1:=HGB.out _ rfl;exact (hset _ (by omega)).trans (HFX.out.block _ h1.2 (by omega))))
             ·rw[HRK.out,← HVR.out,← HMM.out]
              exact (HPR.out.kept HQK.out (by omega) fun k hk hl=>hset k (by omega)).mono (by have:=HB5.out.size;omega)
        ·have e8:¬ (vr:Int)≤8:=by omega
         have HRK:Hid (rKnown l=false):=by show _=_;unfold rKnown;rw[HKN.out,← HVR.out];simp[h8]
         clear her
         go_wp2_with fail
         obtain⟨W9,hW9⟩ : ∃ W9,W9=w6.alloc (.cells #[.slice fa vr fc,.slice na m nc,.int .i64 3,.slice none 0 0,.slice none 0 0] 36):=⟨_,rfl⟩
         obtain⟨sb,hsb⟩ : ∃ sb,sb=w6.heap.size:=⟨_,rfl⟩
         have hrep:=Blk.new w6 #[.slice fa vr fc,.slice na m nc,.int .i64 3,.slice none 0 0,.slice none 0 0] 36
         have hb69:=(Below.refl w6.heap.size w6).alloc (Nat.le_refl _) (.cells #[.slice fa vr fc,.slice na m nc,.int .i64 3,.slice none 0 0,.slice none 0 0] 36)
         have hz9:W9.heap.size=sb+1:=by rw[hW9,hsb];simp
         rw[← hW9] at hrep hb69 ⊢
         rw[← hsb] at hrep ⊢
         have HR9:Hid (Blk W9 sb #[.slice fa vr fc,.slice na m nc,.int .i64 3,.slice none 0 0,.slice none 0 0] 36):=hrep
         have HB69:=Lib.hid hb69
         have HSB:=Lib.hid hsb
         have HS9:=Lib.hid hz9
         clear hW9 hsb hrep hb69 hz9
         have HQK:=Lib.hid (RefV.keeps false vr (phiP l))
         have hstart:PAt 36 46 sb #[.slice fa vr fc,.slice na m nc,.int .i64 3,.slice none 0 0] (fun p vd v W=>RefV false vr (phiP l p) vd v W) W9 (prsAt m 0 1) W9:=PAt.start _ _ _ _ _ _ HR9.out
         have HXS:Hid (sb<W9.heap.size):=by show _<_;rw[HS9.out];omega
         have HFR:Hid (Fr (fun k=>k=sb) W9 W9):=Fr.refl _ _
         have HVE:Hid (RefV (rKnown l) vr (phiE l) 3 (.slice none 0 0) W9):=by show RefV _ _ _ _ _ _;rw[HRK.out];unfold RefV;rw[if_neg (by decide)];exact⟨rfl,rfl⟩
         have HGB:Hid (∀ ad:Addr,none=some ad→W9.heap.size≤ad.block∧ad.block<W9.heap.size):=fun ad had=>by cases had
         go_loopw [18] (fun iv wr=>∃ i:Nat,iv=.int .i64 i∧i≤m∧PAt 36 46 sb #[.slice fa vr fc,.slice na m nc,.int .i64 3,.slice none 0 0] (fun p vd v W=>RefV false vr (phiP l p) vd v W) W9 (prsAt m i (i+1)) wr) (fun iv _=>m - (intOf iv).toNat)
         case atStart=>exact⟨0,rfl,Nat.zero_le _,hstart⟩
         case round =>
          obtain⟨i,rfl,hi,hP⟩:=hrel
          have HP:=Lib.hid hP
          clear hstart hP
          by_cases hlt:i<m
          ·go_wp2_with fail
           go_loopw [19] (fun jv wr=>∃ j:Nat,jv=.int .i64 j∧i+1≤j∧j≤m∧PAt 36 46 sb #[.slice fa vr fc,.slice na m nc,.int .i64 3,.slice none 0 0] (fun p vd v W=>RefV false vr (phiP l p) vd v W) W9 (prsAt m i j) wr) (fun jv _=>m - (intOf jv).toNat)
           case atStart=>exact⟨i+1,by go_num,Nat.le_refl _,by omega,HP.out⟩
           case round =>
            obtain⟨j,rfl,hij,hj,hP2⟩:=hrel
            have HP2:=Lib.hid hP2
            clear hP2
            by_cases hlt2:j<m
            ·obtain⟨pa,hfr2,hrep2,hpr⟩:=HP2.out
             go_upto_region 32 with fail
             obtain⟨W12,hW12⟩ : ∃ W12,W12=wr.alloc (.cells #[.int .i64 i,.int .i64 j,.int .i64 3,.slice none 0 0] 46):=⟨_,rfl⟩
             obtain⟨pb,hpb⟩ : ∃ pb,pb=wr.heap.size:=⟨_,rfl⟩
             have hk12:=Blk.new wr #[.int .i64 i,.int .i64 j,.int .i64 3,.slice none 0 0] 46
             have hsb12:=(Below.refl wr.heap.size wr).alloc (Nat.le_refl _) (.cells #[.int .i64 i,.int .i64 j,.int .i64 3,.slice none 0 0] 46)
             rw[← hW12] at hk12 hsb12 ⊢
             rw[← hpb] at hk12 ⊢
             have HK12:Hid (Blk W12 pb #[.int .i64 i,.int .i64 j,.int .i64 3,.slice none 0 0] 46):=hk12
             have hv12:RefV false vr (phiP l (i,j)) 3 (.slice none 0 0) W12:=by unfold RefV;rw[if_neg (by decide)];exact⟨rfl,rfl⟩
             have hga12:∀ ad:Addr,none=some ad→wr.heap.size≤ad.block∧ad.block<W12.heap.size:=fun ad had=>by cases had
             have HPR:=Lib.hid hpr
             have HFX:=Lib.hid hfr2
             have HRB:=Lib.hid hrep2
             clear hW12 hpb hk12 hpr hfr2 hrep2
             have hba:Below W12.heap.size W12 (W12.alloc (.cells #[.int .i64 i,.int .i64 j,.int .i64 3,.slice none 0 0] 46)):=(Below.refl _ _).alloc (Nat.le_refl _) _
             have hpr12:=HPR.out.kept HQK.out (below_next hsb12 hba).size fun k _ hk=>(below_next hsb12 hba).block k hk
             have hrep12:Blk W12 sb #[.slice fa vr fc,.slice na m nc,.int .i64 3,.slice none 0 0,pa] 36:=HRB.out.below hsb12
             obtain⟨r0,r1,r2,r3,r4⟩:=five_cells hrep12
             have fr12:=hrep12.free
             obtain⟨k0,k1,k2,k3⟩:=four_cells HK12.out
             have HS12:=Lib.hid hsb12
             have HV12:=Lib.hid hv12
             have HG12:=Lib.hid hga12
             have HR12:=Lib.hid hrep12
             have HPF:=Lib.hid HPR.out.form
             obtain⟨q,hq⟩ : ∃ q,q=(prsAt m i j).length:=⟨_,rfl⟩
             have HQL:=Lib.hid hq
             have hq1000:q≤1000:=by rw[hq];exact prsAt_len hml (by omega) (by omega)
             obtain⟨cs,hcs1,hcs2,hcs3,hcs4⟩:=hpr12
             rw[← hq] at hcs1 hcs2
             have HC1:=Lib.hid hcs1
             have HC2:=Lib.hid hcs2
             have HC3:=Lib.hid hcs3
             have HC4:=Lib.hid hcs4
             have hxs12:W9.heap.size≤W12.heap.size:=Nat.le_trans HFX.out.size hsb12.size
             clear hsb12 hv12 hga12 hrep12 hba hq hcs1 hcs2 hcs3 hcs4
             go_wp2_with (at_builtin;refine wpList_app rowRPair rfl _ _ rfl W9.heap.size pa q (cs.flatMap id) rfl HC1.out ⟨W12.heap.size,0,none⟩ 1 [.int .i64 i,.int .i64 j,.int .i64 3,.slice none 0 0] rfl rfl (World.news_of_block (cs:=#[.int .i64 i,.int .i64 j,.int .i64 3,.slice none 0 0]) (t:=46) (fr:=(0,0)) (heap_alloc_new W12 _)) (by simp[Value.oneCell']) (by omega) (by simp;omega) (W12.heap.size+1) (by simp) ?_)
             intro gg cap w13 hown hgrow hat hlt13 hcap13
             have hpaB:∀ k,pa.ownBlock=some k→W9.heap.size≤k∧k<wr.heap.size:=fun k hk=>by
              rcases HPF.out with h | ⟨g',c',h,h1,h2⟩
              ·rw[h] at hk;cases hk
              ·rw[h] at hk;cases hk;exact⟨h1,h2⟩
             have hxs:=HXS.out
             have hrx:=HFX.out.size
             have h12r:=HS12.out.size
             have hb13:Blk w13 sb #[.slice fa vr fc,.slice na m nc,.int .i64 3,.slice none 0 0,pa] 36:=by
              have h1:=HR12.out.lt
              exact (hgrow.block sb (by simp;omega) (fun e=>by have:=(hpaB _ e.symm).1;omega)).trans ((Below.heap_alloc _ _ _ h1).trans HR12.out)
             have hP13:PRow 46 (fun p vd v W=>RefV false vr (phiP l p) vd v W) W9.heap.size w13 (.slice (some ⟨gg,0,none⟩) (q+1) cap) (prsAt m i j++[(i,j)]):=by
              have hown':=hown
              rw[HQL.out] at hown' ⊢
              refine PRow.push HQK.out (by rw[← HQL.out];exact HC2.out) HC3.out HC4.out (HV12.out.kept (by simp) fun a n c e=>by cases e <;> exact Below.heap_alloc _ _ _ (HG12.out _ rfl).2) (fun ad had=>?_) (by rw[List.flatMap_id];exact hown') hgrow ?_
              ·have h1:=HG12.out ad had
               refine⟨by omega,by simp;omega,fun e=>?_⟩
               have h2:=hpaB _ e
               omega
              ·rcases hat with h | h
               ·exact Or.inl h
               ·exact Or.inr (by rw[h];simp)
             have hBX:Below W9.heap.size wr w13:=((HS12.out.mono hrx).alloc hxs12 _).grown hgrow (by simp;omega) (fun k hk=>(hpaB k hk).1)
             obtain⟨r0',r1',r2',r3',r4'⟩:=five_cells hb13
             have fr13:=hb13.free
             have HB13:=Lib.hid hb13
             have HP13:=Lib.hid hP13
             have HBX:=Lib.hid hBX
             clear hb13 hP13 hBX hown hgrow hat k0 k1 k2 k3 r0 r1 r2 r3 r4 fr12 hpaB
             go_wp2_with fail
             have HPN:Hid (PAt 36 46 sb #[.slice fa vr fc,.slice na m nc,.int .i64 3,.slice none 0 0] (fun p vd v W=>RefV false vr (phiP l p) vd v W) W9 (prsAt m i (j+1)) (w13.setCell ⟨sb,4,none⟩ (.slice (some ⟨gg,0,none⟩) (q+1) cap))):=by
              rw[prsAt_snoc hij]
              refine⟨_,(HFX.out.trans (S':=fun k=>W9.heap.size≤k) ⟨HBX.out.os,HBX.out.tape,HBX.out.output,HBX.out.size,fun k _ hn=>HBX.out.block k (by omega)⟩ (fun k hk h=>by omega)).trans (Fr.of_set w13 sb 4 _) (fun _ _ q=>q),HB13.out.seti 4 _,?_⟩
              exact HP13.out.kept HQK.out (by simp) fun k hk _=>Below.heap_setCell _ _ _ _ (by show k≠sb;omega)
             clear fr13 r0' r1' r2' r3' r4'
             go_roundw
             case rel=>exact⟨j+1,by go_num,by omega,by omega,HPN.out⟩
             case measure=>simp[intOf];omega
            ·have hje:j=m:=by omega
             have HP3:Hid (PAt 36 46 sb #[.slice fa vr fc,.slice na m nc,.int .i64 3,.slice none 0 0] (fun p vd v W=>RefV false vr (phiP l p) vd v W) W9 (prsAt m (i+1) (i+2)) wr):=by have h:=HP2.out;rw[hje,prsAt_next] at h;exact h
             subst hje
             go_wp2_with fail
             go_roundw
             case rel=>exact⟨i+1,by go_num,by omega,HP3.out⟩
             case measure=>simp[intOf];omega
          ·have hie:i=m:=by omega
           subst hie
           obtain⟨pa,hfr2,hrep2,hpr⟩:=HP.out
           rw[prsAt_full] at hpr
           obtain⟨px,pn,pc,rfl⟩ : ∃ x n c,pa=.slice x n c:=by
            rcases hpr.form with h | ⟨g,c,h,_⟩
            ·exact⟨_,_,_,h⟩
            ·exact⟨_,_,_,h⟩
           have hrep3:Blk wr sb #[.slice fa vr fc,.slice na i nc,.int .i64 3,.slice none 0 0,.slice px pn pc] 36:=hrep2
           have hbel:Below sb W9 wr:=(HFR.out.trans hfr2 (fun _ _ q=>q)).belowB (by rw[HS9.out];omega)
           have hbel6:Below w6.heap.size w6 wr:=HB69.out.trans (hbel.mono (by have:=HSB.out;omega))
           have hkz:=(HK5.out.below HB6.out).below hbel6
           obtain⟨p0,p1,p2,p3,p4⟩:=five_cells hkz
           have f0:=hkz.free
           obtain⟨z0,z1,z2,z3,z4⟩:=five_cells hrep3
           have HBW:Hid (Below w.heap.size w wr):=below_next (below_next HB5.out HB6.out) hbel6
           have HB6r:=Lib.hid hbel6
           have HFX:=Lib.hid hfr2
           have HPR:=Lib.hid hpr
           have HZS:Hid (hz<w5.heap.size):=hz5
           clear hfr2 hrep2 hpr hrep3 hbel hbel6 hkz
           go_wp2_with fail
           refine bodyPost_ret (v:=.tuple #[.agg #[.slice fa vr fc,.slice na i nc,.int .i64 3,.slice none 0 0,.slice px pn pc],.int .i64 0]) (by simp[results,Tryz.results10,go_sem,p0,p1,p2,p3,p4]) rfl ⟨?_,0,_,rfl,Or.inr ⟨rfl,HGOOD.out,?_⟩⟩
           ·have hzz:w.heap.size≤hz:=by rw[HHZ.out];exact Nat.le_refl _
            exact ((((HBW.out.setCell hzz _).setCell hzz _).setCell hzz _).setCell hzz _).setCell hzz _
           ·have hset:=fun k (hk:k≠hz)=>five_set wr hz (.slice fa vr fc) (.slice na i nc) (.int .i64 3) (.slice none 0 0) (.slice px pn pc) k hk
            have hsize:(((((wr.setCell ⟨hz,0,none⟩ (.slice fa vr fc)).setCell ⟨hz,1,none⟩ (.slice na i nc)).setCell ⟨hz,2,none⟩ (.int .i64 3)).setCell ⟨hz,3,none⟩ (.slice none 0 0)).setCell ⟨hz,4,none⟩ (.slice px pn pc)).heap.size=wr.heap.size:=by simp
            generalize (((((wr.setCell ⟨hz,0,none⟩ (.slice fa vr fc)).setCell ⟨hz,1,none⟩ (.slice na i nc)).setCell ⟨hz,2,none⟩ (.int .i64 3)).setCell ⟨hz,3,none⟩ (.slice none 0 0)).setCell ⟨hz,4,none⟩ (.slice px pn pc))=W' at hset hsize ⊢
            have hzw:=HHZ.out
            have h6s:=HB6.out.size
            have h9s:=HB69.out.size
            have h9z:=HS9.out
            have hxs:=HFR.out.size
            have hrs:=HFX.out.size
            have hz5':=HZS.out
            have hsb':=HSB.out
            refine⟨_,_,_,_,_,rfl,?_,?_,?_,?_⟩
            ·rw[HKN.out]
             rw[if_pos rfl];exact sg_of_rwe (HFW.out.kept fun k hk hl=>(hset k (by omega)).trans (HB6r.out.block k hl))
            ·refine names_sl (base:=W0.heap.size) (row_kept HRN.out fun k hk _ hl=>(hset k (by have:=HHH.out;omega)).trans ?_)
             exact (below_next (below_next (below_next HB13.out HB.out) HB6.out) HB6r.out).block k hl
            ·rw[← HVR.out]
             exact (HVE.out.kept (by omega:W9.heap.size≤W'.heap.size) fun a n c e=>by
              cases e <;> first
              | (have h1:=HGB.out _ rfl;exact (hset _ (by omega)).trans (HFX.out.block _ h1.2 (by omega))))
            ·rw[HRK.out,← HVR.out,← HMM.out]
             exact (HPR.out.kept HQK.out (by omega) fun k hk hl=>hset k (by omega)).mono (by have:=HB5.out.size;omega)
       ·have e0:(er==0)=false:=by simp[her]
        have HKN:Hid (knownL l=false):=by show _=_;unfold knownL;rw[← HER.out];exact e0
        have HRK:Hid (rKnown l=false):=by show _=_;unfold rKnown;rw[HKN.out];rfl
        clear her
        go_wp2_with fail
        obtain⟨W9,hW9⟩ : ∃ W9,W9=w6.alloc (.cells #[.slice none 0 0,.slice na m nc,.int .i64 3,.slice none 0 0,.slice none 0 0] 36):=⟨_,rfl⟩
        obtain⟨sb,hsb⟩ : ∃ sb,sb=w6.heap.size:=⟨_,rfl⟩
        have hrep:=Blk.new w6 #[.slice none 0 0,.slice na m nc,.int .i64 3,.slice none 0 0,.slice none 0 0] 36
        have hb69:=(Below.refl w6.heap.size w6).alloc (Nat.le_refl _) (.cells #[.slice none 0 0,.slice na m nc,.int .i64 3,.slice none 0 0,.slice none 0 0] 36)
        have hz9:W9.heap.size=sb+1:=by rw[hW9,hsb];simp
        rw[← hW9] at hrep hb69 ⊢
        rw[← hsb] at hrep ⊢
        have HR9:Hid (Blk W9 sb #[.slice none 0 0,.slice na m nc,.int .i64 3,.slice none 0 0,.slice none 0 0] 36):=hrep
        have HB69:=Lib.hid hb69
        have HSB:=Lib.hid hsb
        have HS9:=Lib.hid hz9
        clear hW9 hsb hrep hb69 hz9
        have HQK:=Lib.hid (RefV.keeps false vr (phiP l))
        have hstart:PAt 36 46 sb #[.slice none 0 0,.slice na m nc,.int .i64 3,.slice none 0 0] (fun p vd v W=>RefV false vr (phiP l p) vd v W) W9 (prsAt m 0 1) W9:=PAt.start _ _ _ _ _ _ HR9.out
        have HXS:Hid (sb<W9.heap.size):=by show _<_;rw[HS9.out];omega
        have HFR:Hid (Fr (fun k=>k=sb) W9 W9):=Fr.refl _ _
        have HVE:Hid (RefV (rKnown l) vr (phiE l) 3 (.slice none 0 0) W9):=by show RefV _ _ _ _ _ _;rw[HRK.out];unfold RefV;rw[if_neg (by decide)];exact⟨rfl,rfl⟩
        have HGB:Hid (∀ ad:Addr,none=some ad→W9.heap.size≤ad.block∧ad.block<W9.heap.size):=fun ad had=>by cases had
        go_loopw [18] (fun iv wr=>∃ i:Nat,iv=.int .i64 i∧i≤m∧PAt 36 46 sb #[.slice none 0 0,.slice na m nc,.int .i64 3,.slice none 0 0] (fun p vd v W=>RefV false vr (phiP l p) vd v W) W9 (prsAt m i (i+1)) wr) (fun iv _=>m - (intOf iv).toNat)
        case atStart=>exact⟨0,rfl,Nat.zero_le _,hstart⟩
        case round =>
         obtain⟨i,rfl,hi,hP⟩:=hrel
         have HP:=Lib.hid hP
         clear hstart hP
         by_cases hlt:i<m
         ·go_wp2_with fail
          go_loopw [19] (fun jv wr=>∃ j:Nat,jv=.int .i64 j∧i+1≤j∧j≤m∧PAt 36 46 sb #[.slice none 0 0,.slice na m nc,.int .i64 3,.slice none 0 0] (fun p vd v W=>RefV false vr (phiP l p) vd v W) W9 (prsAt m i j) wr) (fun jv _=>m - (intOf jv).toNat)
          case atStart=>exact⟨i+1,by go_num,Nat.le_refl _,by omega,HP.out⟩
          case round =>
           obtain⟨j,rfl,hij,hj,hP2⟩:=hrel
           have HP2:=Lib.hid hP2
           clear hP2
           by_cases hlt2:j<m
           ·obtain⟨pa,hfr2,hrep2,hpr⟩:=HP2.out
            go_upto_region 32 with fail
            obtain⟨W12,hW12⟩ : ∃ W12,W12=wr.alloc (.cells #[.int .i64 i,.int .i64 j,.int .i64 3,.slice none 0 0] 46):=⟨_,rfl⟩
            obtain⟨pb,hpb⟩ : ∃ pb,pb=wr.heap.size:=⟨_,rfl⟩
            have hk12:=Blk.new wr #[.int .i64 i,.int .i64 j,.int .i64 3,.slice none 0 0] 46
            have hsb12:=(Below.refl wr.heap.size wr).alloc (Nat.le_refl _) (.cells #[.int .i64 i,.int .i64 j,.int .i64 3,.slice none 0 0] 46)
            rw[← hW12] at hk12 hsb12 ⊢
            rw[← hpb] at hk12 ⊢
            have HK12:Hid (Blk W12 pb #[.int .i64 i,.int .i64 j,.int .i64 3,.slice none 0 0] 46):=hk12
            have hv12:RefV false vr (phiP l (i,j)) 3 (.slice none 0 0) W12:=by unfold RefV;rw[if_neg (by decide)];exact⟨rfl,rfl⟩
            have hga12:∀ ad:Addr,none=some ad→wr.heap.size≤ad.block∧ad.block<W12.heap.size:=fun ad had=>by cases had
            have HPR:=Lib.hid hpr
            have HFX:=Lib.hid hfr2
            have HRB:=Lib.hid hrep2
            clear hW12 hpb hk12 hpr hfr2 hrep2
            have hba:Below W12.heap.size W12 (W12.alloc (.cells #[.int .i64 i,.int .i64 j,.int .i64 3,.slice none 0 0] 46)):=(Below.refl _ _).alloc (Nat.le_refl _) _
            have hpr12:=HPR.out.kept HQK.out (below_next hsb12 hba).size fun k _ hk=>(below_next hsb12 hba).block k hk
            have hrep12:Blk W12 sb #[.slice none 0 0,.slice na m nc,.int .i64 3,.slice none 0 0,pa] 36:=HRB.out.below hsb12
            obtain⟨r0,r1,r2,r3,r4⟩:=five_cells hrep12
            have fr12:=hrep12.free
            obtain⟨k0,k1,k2,k3⟩:=four_cells HK12.out
            have HS12:=Lib.hid hsb12
            have HV12:=Lib.hid hv12
            have HG12:=Lib.hid hga12
            have HR12:=Lib.hid hrep12
            have HPF:=Lib.hid HPR.out.form
            obtain⟨q,hq⟩ : ∃ q,q=(prsAt m i j).length:=⟨_,rfl⟩
            have HQL:=Lib.hid hq
            have hq1000:q≤1000:=by rw[hq];exact prsAt_len hml (by omega) (by omega)
            obtain⟨cs,hcs1,hcs2,hcs3,hcs4⟩:=hpr12
            rw[← hq] at hcs1 hcs2
            have HC1:=Lib.hid hcs1
            have HC2:=Lib.hid hcs2
            have HC3:=Lib.hid hcs3
            have HC4:=Lib.hid hcs4
            have hxs12:W9.heap.size≤W12.heap.size:=Nat.le_trans HFX.out.size hsb12.size
            clear hsb12 hv12 hga12 hrep12 hba hq hcs1 hcs2 hcs3 hcs4
            go_wp2_with (at_builtin;refine wpList_app rowRPair rfl _ _ rfl W9.heap.size pa q (cs.flatMap id) rfl HC1.out ⟨W12.heap.size,0,none⟩ 1 [.int .i64 i,.int .i64 j,.int .i64 3,.slice none 0 0] rfl rfl (World.news_of_block (cs:=#[.int .i64 i,.int .i64 j,.int .i64 3,.slice none 0 0]) (t:=46) (fr:=(0,0)) (heap_alloc_new W12 _)) (by simp[Value.oneCell']) (by omega) (by simp;omega) (W12.heap.size+1) (by simp) ?_)
            intro gg cap w13 hown hgrow hat hlt13 hcap13
            have hpaB:∀ k,pa.ownBlock=some k→W9.heap.size≤k∧k<wr.heap.size:=fun k hk=>by
             rcases HPF.out with h | ⟨g',c',h,h1,h2⟩
             ·rw[h] at hk;cases hk
             ·rw[h] at hk;cases hk;exact⟨h1,h2⟩
            have hxs:=HXS.out
            have hrx:=HFX.out.size
            have h12r:=HS12.out.size
            have hb13:Blk w13 sb #[.slice none 0 0,.slice na m nc,.int .i64 3,.slice none 0 0,pa] 36:=by
             have h1:=HR12.out.lt
             exact (hgrow.block sb (by simp;omega) (fun e=>by have:=(hpaB _ e.symm).1;omega)).trans ((Below.heap_alloc _ _ _ h1).trans HR12.out)
            have hP13:PRow 46 (fun p vd v W=>RefV false vr (phiP l p) vd v W) W9.heap.size w13 (.slice (some ⟨gg,0,none⟩) (q+1) cap) (prsAt m i j++[(i,j)]):=by
             have hown':=hown
             rw[HQL.out] at hown' ⊢
             refine PRow.push HQK.out (by rw[← HQL.out];exact HC2.out) HC3.out HC4.out (HV12.out.kept (by simp) fun a n c e=>by cases e <;> exact Below.heap_alloc _ _ _ (HG12.out _ rfl).2) (fun ad had=>?_) (by rw[List.flatMap_id];exact hown') hgrow ?_
             ·have h1:=HG12.out ad had
              refine⟨by omega,by simp;omega,fun e=>?_⟩
              have h2:=hpaB _ e
              omega
             ·rcases hat with h | h
              ·exact Or.inl h
              ·exact Or.inr (by rw[h];simp)
            have hBX:Below W9.heap.size wr w13:=((HS12.out.mono hrx).alloc hxs12 _).grown hgrow (by simp;omega) (fun k hk=>(hpaB k hk).1)
            obtain⟨r0',r1',r2',r3',r4'⟩:=five_cells hb13
            have fr13:=hb13.free
            have HB13:=Lib.hid hb13
            have HP13:=Lib.hid hP13
            have HBX:=Lib.hid hBX
            clear hb13 hP13 hBX hown hgrow hat k0 k1 k2 k3 r0 r1 r2 r3 r4 fr12 hpaB
            go_wp2_with fail
            have HPN:Hid (PAt 36 46 sb #[.slice none 0 0,.slice na m nc,.int .i64 3,.slice none 0 0] (fun p vd v W=>RefV false vr (phiP l p) vd v W) W9 (prsAt m i (j+1)) (w13.setCell ⟨sb,4,none⟩ (.slice (some ⟨gg,0,none⟩) (q+1) cap))):=by
             rw[prsAt_snoc hij]
             refine⟨_,(HFX.out.trans (S':=fun k=>W9.heap.size≤k) ⟨HBX.out.os,HBX.out.tape,HBX.out.output,HBX.out.size,fun k _ hn=>HBX.out.block k (by omega)⟩ (fun k hk h=>by omega)).trans (Fr.of_set w13 sb 4 _) (fun _ _ q=>q),HB13.out.seti 4 _,?_⟩
             exact HP13.out.kept HQK.out (by simp) fun k hk _=>Below.heap_setCell _ _ _ _ (by show k≠sb;omega)
            clear fr13 r0' r1' r2' r3' r4'
            go_roundw
            case rel=>exact⟨j+1,by go_num,by omega,by omega,HPN.out⟩
            case measure=>simp[intOf];omega
           ·have hje:j=m:=by omega
            have HP3:Hid (PAt 36 46 sb #[.slice none 0 0,.slice na m nc,.int .i64 3,.slice none 0 0] (fun p vd v W=>RefV false vr (phiP l p) vd v W) W9 (prsAt m (i+1) (i+2)) wr):=by have h:=HP2.out;rw[hje,prsAt_next] at h;exact h
            subst hje
            go_wp2_with fail
            go_roundw
            case rel=>exact⟨i+1,by go_num,by omega,HP3.out⟩
            case measure=>simp[intOf];omega
         ·have hie:i=m:=by omega
          subst hie
          obtain⟨pa,hfr2,hrep2,hpr⟩:=HP.out
          rw[prsAt_full] at hpr
          obtain⟨px,pn,pc,rfl⟩ : ∃ x n c,pa=.slice x n c:=by
           rcases hpr.form with h | ⟨g,c,h,_⟩
           ·exact⟨_,_,_,h⟩
           ·exact⟨_,_,_,h⟩
          have hrep3:Blk wr sb #[.slice none 0 0,.slice na i nc,.int .i64 3,.slice none 0 0,.slice px pn pc] 36:=hrep2
          have hbel:Below sb W9 wr:=(HFR.out.trans hfr2 (fun _ _ q=>q)).belowB (by rw[HS9.out];omega)
          have hbel6:Below w6.heap.size w6 wr:=HB69.out.trans (hbel.mono (by have:=HSB.out;omega))
          have hkz:=(HK5.out.below HB6.out).below hbel6
          obtain⟨p0,p1,p2,p3,p4⟩:=five_cells hkz
          have f0:=hkz.free
          obtain⟨z0,z1,z2,z3,z4⟩:=five_cells hrep3
          have HBW:Hid (Below w.heap.size w wr):=below_next (below_next HB5.out HB6.out) hbel6
          have HB6r:=Lib.hid hbel6
          have HFX:=Lib.hid hfr2
          have HPR:=Lib.hid hpr
          have HZS:Hid (hz<w5.heap.size):=hz5
          clear hfr2 hrep2 hpr hrep3 hbel hbel6 hkz
          go_wp2_with fail
          refine bodyPost_ret (v:=.tuple #[.agg #[.slice none 0 0,.slice na i nc,.int .i64 3,.slice none 0 0,.slice px pn pc],.int .i64 0]) (by simp[results,Tryz.results10,go_sem,p0,p1,p2,p3,p4]) rfl ⟨?_,0,_,rfl,Or.inr ⟨rfl,HGOOD.out,?_⟩⟩
          ·have hzz:w.heap.size≤hz:=by rw[HHZ.out];exact Nat.le_refl _
           exact ((((HBW.out.setCell hzz _).setCell hzz _).setCell hzz _).setCell hzz _).setCell hzz _
          ·have hset:=fun k (hk:k≠hz)=>five_set wr hz (.slice none 0 0) (.slice na i nc) (.int .i64 3) (.slice none 0 0) (.slice px pn pc) k hk
           have hsize:(((((wr.setCell ⟨hz,0,none⟩ (.slice none 0 0)).setCell ⟨hz,1,none⟩ (.slice na i nc)).setCell ⟨hz,2,none⟩ (.int .i64 3)).setCell ⟨hz,3,none⟩ (.slice none 0 0)).setCell ⟨hz,4,none⟩ (.slice px pn pc)).heap.size=wr.heap.size:=by simp
           generalize (((((wr.setCell ⟨hz,0,none⟩ (.slice none 0 0)).setCell ⟨hz,1,none⟩ (.slice na i nc)).setCell ⟨hz,2,none⟩ (.int .i64 3)).setCell ⟨hz,3,none⟩ (.slice none 0 0)).setCell ⟨hz,4,none⟩ (.slice px pn pc))=W' at hset hsize ⊢
           have hzw:=HHZ.out
           have h6s:=HB6.out.size
           have h9s:=HB69.out.size
           have h9z:=HS9.out
           have hxs:=HFR.out.size
           have hrs:=HFX.out.size
           have hz5':=HZS.out
           have hsb':=HSB.out
           refine⟨_,_,_,_,_,rfl,?_,?_,?_,?_⟩
           ·rw[HKN.out]
            rw[if_neg (by decide)];exact Sg.nil_
           ·refine names_sl (base:=W0.heap.size) (row_kept HRN.out fun k hk _ hl=>(hset k (by have:=HHH.out;omega)).trans ?_)
            exact (below_next (below_next (below_next HB13.out HB.out) HB6.out) HB6r.out).block k hl
           ·rw[← HVR.out]
            exact (HVE.out.kept (by omega:W9.heap.size≤W'.heap.size) fun a n c e=>by
             cases e <;> first
             | (have h1:=HGB.out _ rfl;exact (hset _ (by omega)).trans (HFX.out.block _ h1.2 (by omega))))
           ·rw[HRK.out,← HVR.out,← HMM.out]
            exact (HPR.out.kept HQK.out (by omega) fun k hk hl=>hset k (by omega)).mono (by have:=HB5.out.size;omega)
end Go.Proofs.YtmacepicoandkaaGreatDoor
namespace Go.Proofs.YtmacepicoandkaaGreatDoor
open Go.RowKit Go.Shelf Tx
theorem lenS_take {L:List (List Nd)} {t:Nat} {e:List Nd} (h:L[t]?=some e):lenS (L.take (t+1))=lenS (L.take t)+e.length:=by
 unfold lenS;rw[take_at h];simp
theorem lenS_le {L:List (List Nd)} (hM:∀ e∈L,e.length≤1000):lenS L≤L.length * 1000:=by
 unfold lenS
 induction L with
 | nil=>simp
 | cons e r ih =>
  have h1:=hM e (by simp)
  have h2:=ih (fun x hx=>hM x (by simp[hx]))
  simp only[List.map_cons,List.sum_cons,List.length_cons]
  rw[Nat.add_mul];omega
theorem lenS_part {L:List (List Nd)} (hM:∀ e∈L,e.length≤1000) (hl:L.length≤1000) (t:Nat):lenS (L.take t)≤1000000:=by
 have h1:=lenS_le (L:=L.take t) (fun e he=>hM e (List.mem_of_mem_take he))
 have h2:(L.take t).length≤1000:=by rw[List.length_take];omega
 have h3:(L.take t).length * 1000≤1000 * 1000:=Nat.mul_le_mul_right _ h2
 omega
theorem asm_each {l:List It} {M:Nat} (h:∀ x∈l,x.e.length≤M):∀ e∈asmL l,e.length≤M:=fun e he=>by
 unfold asmL at he
 obtain⟨x,hx,rfl⟩:=List.mem_map.1 he
 exact h x (List.mem_filter.1 hx).1
theorem req_each {l:List It} {M:Nat} (h:∀ x∈l,x.e.length≤M):∀ e∈reqL l,e.length≤M:=fun e he=>by
 unfold reqL at he
 obtain⟨x,hx,rfl⟩:=List.mem_map.1 he
 exact h x (List.mem_filter.1 hx).1
set_option maxRecDepth 100000 in
set_option maxHeartbeats 2000000 in
theorem nodes_any (l:List It) (v:Value) (w:World) (hl:l.length≤1000) (hM:∀ x∈l,x.e.length≤1000) (hv:Sg 6 IsIt w v l) :
  Calls Tryz.prog 13 #[v] w fun r w'=>r=.returned (.int .i64 ((lenS (asmL l)+lenS (reqL l):Nat):Int))∧Below w.heap.size w w':=by
 have hpa:=rParts_any l v w hl hv
 obtain⟨a0,c0,rfl,hc0,-⟩:=hv.form keepsIt
 have hA1:=asm_each hM
 have hR1:=req_each hM
 have hA2:(asmL l).length≤1000:=Nat.le_trans (asm_len l) hl
 have hR2:(reqL l).length≤1000:=Nat.le_trans (req_len l) hl
 obtain⟨n,hn⟩ : ∃ n,n=(asmL l).length:=⟨_,rfl⟩
 obtain⟨m,hm⟩ : ∃ m,m=(reqL l).length:=⟨_,rfl⟩
 obtain⟨ln,hln⟩ : ∃ ln,ln=l.length:=⟨_,rfl⟩
 have HPL:=fun t=>lenS_part hA1 hA2 t
 have HPR:=fun t=>lenS_part hR1 hR2 t
 have HPL:=Lib.hid HPL
 have HPR:=Lib.hid HPR
 rw[← hn] at hA2
 rw[← hm] at hR2
 rw[← hln] at hl hc0 hpa ⊢
 have HN:=Lib.hid hn
 have HMM:=Lib.hid hm
 have HLN:=Lib.hid hln
 obtain⟨nb,hnb⟩ : ∃ nb,nb=w.heap.size:=⟨_,rfl⟩
 have HNB:=Lib.hid hnb
 clear hv hM hA1 hR1 hn hm hln hnb
 go_enter Tryz.func13,Tryz.ntmps13
 go_wp2_with fail
 refine hpa.mono ?_
 rintro r w1 ⟨va,vr,vn,rfl,hP⟩
 have hb1:=hP.below
 have hra:=hP.ra
 have hrr:=hP.rr
 rw[List.take_length] at hra hrr
 obtain⟨aa,ac,rfl,hac,hax⟩:=rowX (hra.sg hb1)
 obtain⟨ra,rc,rfl,hrc,hrx⟩:=rowX (hrr.sg hb1)
 rw[← HN.out] at hac ⊢
 rw[← HMM.out] at hrc ⊢
 have HAX:=Lib.hid hax
 have HRX:=Lib.hid hrx
 have HB1:=Lib.hid hb1
 clear hpa hP hb1 hra hrr hax hrx
 go_wp2_with fail
 go_loop [6,7] (fun s iv=>∃ t:Nat,iv=.int .i64 t∧t≤n∧s=.int .i64 ((lenS ((asmL l).take t):Nat):Int)) (fun _ iv=>n - (intOf iv).toNat)
 case atStart=>exact⟨0,rfl,Nat.zero_le _,rfl⟩
 case round =>
  obtain⟨t,rfl,ht,rfl⟩:=hrel
  obtain⟨q,hq⟩ : ∃ q,q=lenS ((asmL l).take t):=⟨_,rfl⟩
  rw[← hq]
  have HQ:=Lib.hid hq
  have hqb:q≤1000000:=by rw[hq];exact HPL.out t
  clear hq
  by_cases hlt:t<n
  ·obtain⟨e,he⟩ : ∃ e,(asmL l)[t]?=some e:=⟨_,List.getElem?_eq_getElem (by have:=HN.out;omega)⟩
   obtain⟨b,o,u,rfl,hu,hcell⟩:=HAX.out w1 (Below.refl _ _) t e he
   obtain⟨ua,uc,rfl,-,-⟩:=hu.form
   have hnext:=lenS_take he
   have hb2:=HPL.out (t+1)
   rw[hnext,← HQ.out] at hb2
   obtain⟨el,hel⟩ : ∃ el,el=e.length:=⟨_,rfl⟩
   rw[← hel] at hcell hb2
   have HNX:Hid (lenS ((asmL l).take (t+1))=q+el):=by show _=_;rw[hnext,← HQ.out,hel]
   have htn:(t:Int)<(n:Int):=by omega
   have ht0:(0:Int)≤(t:Int):=by omega
   clear he hu hnext hel
   go_wp2_with fail
   go_round
   case rel=>exact⟨t+1,by go_num,by omega,by rw[HNX.out];go_num⟩
   case measure=>simp[intOf];omega
  ·have hte:t=n:=by omega
   subst hte
   have HTOT:Hid (q=lenS (asmL l)):=by show _=_;rw[HQ.out,HN.out,List.take_length]
   go_wp2_with fail
   go_loop [6,8] (fun s iv=>∃ j:Nat,iv=.int .i64 j∧j≤m∧s=.int .i64 ((q+lenS ((reqL l).take j):Nat):Int)) (fun _ iv=>m - (intOf iv).toNat)
   case atStart=>exact⟨0,rfl,Nat.zero_le _,rfl⟩
   case round =>
    obtain⟨j,rfl,hj,rfl⟩:=hrel
    obtain⟨p,hp⟩ : ∃ p,p=q+lenS ((reqL l).take j):=⟨_,rfl⟩
    rw[← hp]
    have HP:=Lib.hid hp
    have hpb:p≤2000000:=by rw[hp];have:=HPR.out j;omega
    clear hp
    by_cases hjm:j<m
    ·obtain⟨e,he⟩ : ∃ e,(reqL l)[j]?=some e:=⟨_,List.getElem?_eq_getElem (by have:=HMM.out;omega)⟩
     obtain⟨b,o,u,rfl,hu,hcell⟩:=HRX.out w1 (Below.refl _ _) j e he
     obtain⟨ua,uc,rfl,-,-⟩:=hu.form
     have hnext:=lenS_take he
     have hb2:=HPR.out (j+1)
     rw[hnext] at hb2
     obtain⟨el,hel⟩ : ∃ el,el=e.length:=⟨_,rfl⟩
     rw[← hel] at hcell hb2
     have hel2:el≤1000000:=by omega
     have HNX:Hid (q+lenS ((reqL l).take (j+1))=p+el):=by show _=_;rw[hnext,HP.out,hel];omega
     have htn:(j:Int)<(m:Int):=by omega
     have ht0:(0:Int)≤(j:Int):=by omega
     clear he hu hnext hel hb2
     go_wp2_with fail
     go_round
     case rel=>exact⟨j+1,by go_num,by omega,by rw[HNX.out];go_num⟩
     case measure=>simp[intOf];omega
    ·have hje:j=m:=by omega
     subst hje
     have HF:Hid ((p:Int)=(lenS (asmL l):Int)+(lenS (reqL l):Int)):=by
      have h:p=lenS (asmL l)+lenS (reqL l):=by rw[HP.out,HTOT.out,HMM.out,List.take_length]
      show _=_;omega
     go_wp2_with fail
     go_ret
     exact⟨by rw[← HF.out];rfl,HB1.out⟩
end Go.Proofs.YtmacepicoandkaaGreatDoor
namespace Go.Proofs.YtmacepicoandkaaGreatDoor
open Go.RowKit Go.Shelf Tx
theorem split_no {l:List (List Nd)} (h:(splitR l).2.2≠0):(splitR l).1=[]:=by
 unfold splitR at h ⊢
 split
 ·rfl
 ·rename_i h1
  rw[if_neg h1] at h
  split
  ·rfl
  ·rename_i h2
   rw[if_neg h2] at h
   exact absurd rfl h
theorem SlBools.len' {W:World} {a:Option Addr} {n c:Nat} {l:List Bool} (h:SlBools W (.slice a n c) l):n=l.length:=by
 obtain⟨a',c',e,_⟩:=h.form2
 cases e;rfl
end Go.Proofs.YtmacepicoandkaaGreatDoor
namespace Go.Proofs.YtmacepicoandkaaGreatDoor
open Go.RowKit Go.Shelf Tx
set_option maxRecDepth 100000 in
theorem fits_yes (got want:Int) (sure:Bool) (h:got=want∨(got=3∧sure=false)∨want=3) (w:World):Calls Tryz.prog 14 #[.int .i64 got,.int .i64 want,.bool sure] w fun r w'=>r=.returned (.bool true)∧w'=w:=by
 by_cases h1:got=want
 ·have e1:(got==want)=true:=by simp[h1]
  clear h h1
  go_enter Tryz.func14,Tryz.ntmps14
  go_wp2_with fail
  go_ret
  exact⟨rfl,rfl⟩
 ·have e1:(got==want)=false:=by simp[h1]
  by_cases h3:want=3
  ·subst h3
   clear h
   by_cases h4:got=3
   ·exact absurd h4 h1
   ·have e2:(got==3)=false:=by simp[h4]
    clear h1 h4
    go_enter Tryz.func14,Tryz.ntmps14
    go_wp2_with fail
    go_ret
    exact⟨rfl,rfl⟩
  ·obtain⟨rfl,rfl⟩ : got=3∧sure=false:=by
    rcases h with h | h | h
    ·exact absurd h h1
    ·exact h
    ·exact absurd h h3
   clear h h1 h3
   go_enter Tryz.func14,Tryz.ntmps14
   go_wp2_with fail
   go_ret
   exact⟨rfl,rfl⟩
set_option maxRecDepth 100000 in
set_option maxHeartbeats 8000000 in
theorem modesChecks_any (l:List It) (v:Value) (bud:Int) (w:World) (G:Gl w) (hlm:l.length≤maxLen) (hMm:∀ x∈l,x.e.length≤maxLen) (hv:Sg 6 IsIt w v l) :
  Calls Tryz.prog 3 #[v,.int .i64 bud] w fun r w'=>r=.returned (.bool true)∧Below w.heap.size w w':=by
 have hfew:=few22_any l v w hlm hMm hv
 have hlive:=fun W (hW:Below w.heap.size w W)=>live22_any W (G.below hW)
 have HLIVE:=Lib.hid hlive
 have HV:=Lib.hid hv
 have HG:=Lib.hid G
 obtain⟨a0,c0,hav,-,-⟩:=hv.form keepsIt
 subst hav
 obtain⟨fb,hfb⟩ : ∃ fb,fb=fewI l:=⟨_,rfl⟩
 rw[← hfb] at hfew
 have HFB:=Lib.hid hfb
 obtain⟨ln,hln⟩ : ∃ ln,ln=l.length:=⟨_,rfl⟩
 rw[← hln] at hfew HV ⊢
 have HLN:=Lib.hid hln
 clear hlive hv G hfb hln hlm hMm
 cases fb
 ·go_enter Tryz.func3,Tryz.ntmps3
  go_wp2_with fail
  refine hfew.mono ?_
  rintro r w1 ⟨rfl,hw1⟩
  obtain rfl:=hw1
  clear hfew
  go_wp2_with fail
  refine (HLIVE.out _ (Below.refl _ _)).mono ?_
  rintro r w2 ⟨rfl,hb2⟩
  go_wp2_with fail
  go_ret
  exact⟨rfl,hb2⟩
 ·have hfp:FewP l:=by
   have h:=HFB.out
   unfold fewI at h
   have h:=h.symm
   simp only[Bool.and_eq_true,decide_eq_true_eq,List.all_eq_true] at h
   exact⟨h.1,h.2⟩
  have HFP:=Lib.hid hfp
  have hck:=check_any l (.slice a0 ln c0) bud w HG.out (by have:=hfp.len;omega) (fun x hx=>Nat.le_trans (hfp.each x hx) (by omega)) HV.out
  have hrk:=fun W (hW:Below w.heap.size w W)=>rCheck_any l (.slice a0 ln c0) bud W (by have:=hfp.len;omega) (fun x hx=>Nat.le_trans (hfp.each x hx) (by omega)) (HV.out.below keepsIt hW)
  have HRK:=Lib.hid hrk
  clear hfp hrk
  go_enter Tryz.func3,Tryz.ntmps3
  go_wp2_with fail
  refine hfew.mono ?_
  rintro r w1 ⟨rfl,hw1⟩
  obtain rfl:=hw1
  clear hfew
  go_wp2_with fail
  refine hck.mono ?_
  rintro r w2 ⟨hb2,er,rep,rfl,hor⟩
  clear hck
  have HB2:=Lib.hid hb2
  clear hb2
  rcases hor with ⟨rfl,hbad,rfl⟩ | ⟨rfl,hgood,bn,rfl,am,mo,ga,pa,ex,rfl,ham,hmo,hvd,hpr⟩
  ·have HBAD:=Lib.hid hbad
   clear hbad
   have hb3:=(Below.refl w2.heap.size w2).alloc (Nat.le_refl _) (.cells #[.slice none 0 0,.slice none 0 0,.int .i64 0,.slice none 0 0,.slice none 0 0] 30)
   have hk3:=Blk.new w2 #[.slice none 0 0,.slice none 0 0,.int .i64 0,.slice none 0 0,.slice none 0 0] 30
   go_upto_region 4 with fail
   obtain⟨W3,hW3⟩ : ∃ W3,W3=w2.alloc (.cells #[.slice none 0 0,.slice none 0 0,.int .i64 0,.slice none 0 0,.slice none 0 0] 30):=⟨_,rfl⟩
   obtain⟨b1,hb1⟩ : ∃ b1,b1=w2.heap.size:=⟨_,rfl⟩
   rw[← hW3] at hb3 hk3 ⊢
   rw[← hb1] at hk3 ⊢
   have hrk:=HRK.out W3 (below_next HB2.out hb3)
   have HB3:=Lib.hid (below_next HB2.out hb3)
   have HK3:=Lib.hid hk3
   clear hW3 hb1 hb3 hk3
   go_wp2_with fail
   refine hrk.mono ?_
   rintro r w4 ⟨hb4,er2,rep2,rfl,hor2⟩
   obtain⟨rfl,rfl⟩ : er2=1∧rep2=#[.slice none 0 0,.slice none 0 0,.int .i64 0,.slice none 0 0,.slice none 0 0]:=by
    rcases hor2 with ⟨h1,_,h3⟩ | ⟨_,h,_⟩
    ·exact⟨h1,h3⟩
    ·exact absurd HBAD.out h
   clear hrk hor2
   have hb5:=(Below.refl w4.heap.size w4).alloc (Nat.le_refl _) (.cells #[.slice none 0 0,.slice none 0 0,.int .i64 0,.slice none 0 0,.slice none 0 0] 36)
   have hk5:=Blk.new w4 #[.slice none 0 0,.slice none 0 0,.int .i64 0,.slice none 0 0,.slice none 0 0] 36
   go_upto_region 5 with fail
   obtain⟨W5,hW5⟩ : ∃ W5,W5=w4.alloc (.cells #[.slice none 0 0,.slice none 0 0,.int .i64 0,.slice none 0 0,.slice none 0 0] 36):=⟨_,rfl⟩
   obtain⟨b2,hb2⟩ : ∃ b2,b2=w4.heap.size:=⟨_,rfl⟩
   rw[← hW5] at hb5 hk5 ⊢
   rw[← hb2] at hk5 ⊢
   have hq1:=(HK3.out.below hb4).below hb5
   obtain⟨x0,x1,x2,x3,x4⟩:=five_cells hq1
   obtain⟨y0,y1,y2,y3,y4⟩:=five_cells hk5
   have HQ1:=Lib.hid hq1
   have HQ2:=Lib.hid hk5
   have HB5:=Lib.hid (below_next (below_next HB3.out hb4) hb5)
   have htx:=rTexts_any [] [] (.slice none 0 0) (.slice none 0 0) W5 (by simp) (by simp) Sl.nil_ Sl.nil_
   clear hW5 hb2 hb5 hk5 hb4 hq1
   go_wp2_with fail
   refine htx.mono ?_
   rintro r w6 ⟨rfl,hb6⟩
   clear htx x0 x1 x2 x3 x4 y0 y1 y2 y3 y4
   obtain⟨x0,x1,x2,x3,x4⟩:=five_cells (HQ1.out.below hb6)
   obtain⟨y0,y1,y2,y3,y4⟩:=five_cells (HQ2.out.below hb6)
   have hex:=Exprs_any [] [] (.slice none 0 0) (.slice none 0 0) w6 (by simp) (by simp) (by simp) (by simp) Sg.nil_ Sg.nil_
   have HB6:=Lib.hid (below_next HB5.out hb6)
   have HB56:=Lib.hid hb6
   clear hb6
   go_wp2_with fail
   refine hex.mono ?_
   rintro r w7 ⟨rfl,k,hw7⟩
   have hb7:Below w6.heap.size w6 w7:=by rw[hw7];exact (Below.refl _ _).trans ⟨rfl,rfl,rfl,Nat.le_refl _,fun _ _=>rfl⟩
   clear hex hw7 x0 x1 x2 x3 x4 y0 y1 y2 y3 y4
   obtain⟨x0,x1,x2,x3,x4⟩:=five_cells ((HQ1.out.below HB56.out).below hb7)
   have hlv:=HLIVE.out w7 (below_next HB6.out hb7)
   have HB7:=Lib.hid (below_next HB6.out hb7)
   clear hb7
   go_wp2_with fail
   refine hlv.mono ?_
   rintro r w8 ⟨rfl,hb8⟩
   clear hlv
   go_wp2_with fail
   go_ret
   exact⟨rfl,below_next HB7.out hb8⟩
  ·have HGOOD:=Lib.hid hgood
   have hsf:=splitR_few (l:=everyL l) (by have:=HFP.out.lens;omega) (every_len (M:=200) (fun x hx=>Nat.le_trans (HFP.out.each x hx) (by omega)))
   have HSF:=Lib.hid hsf.1
   obtain⟨aa,ac,hfa,-,-⟩:=ham.form keepsL
   obtain⟨ma,mc,hfm,-,-⟩:=hmo.form
   obtain⟨gaa,gan,gac,hfg,hgal⟩:=hvd.form
   obtain⟨paa,pac,hfp,-,hpx⟩:=hpr.sg.form (keepsP (VerdQ.keeps _ _ _ _))
   subst hfa hfm hfg hfp
   obtain⟨va,hva⟩ : ∃ va,va=(splitR (everyL l)).1.length:=⟨_,rfl⟩
   obtain⟨vm,hvm⟩ : ∃ vm,vm=(nmsL l).length:=⟨_,rfl⟩
   obtain⟨vp,hvp⟩ : ∃ vp,vp=(prs (reqL l).length).length:=⟨_,rfl⟩
   have HAM:Hid (Sg 1 IsL w2 (.slice aa va ac) (splitR (everyL l)).1):=by rw[hva];exact ham
   have HMO:Hid (Sl strC 1 w2 (.slice ma vm mc) (nmsL l)):=by rw[hvm];exact hmo
   have HVD:=Lib.hid hvd
   have HPX:=Lib.hid hpx
   rw[← hva,← hvm,← hvp]
   have HVA:=Lib.hid hva
   have HVM:=Lib.hid hvm
   have HVP:=Lib.hid hvp
   clear hgood hsf ham hmo hvd hpx hpr hva hvm hvp hgal
   have hb3:=(Below.refl w2.heap.size w2).alloc (Nat.le_refl _) (.cells #[.slice aa va ac,.slice ma vm mc,.int .i64 ex,.slice gaa gan gac,.slice paa vp pac] 30)
   have hk3:=Blk.new w2 #[.slice aa va ac,.slice ma vm mc,.int .i64 ex,.slice gaa gan gac,.slice paa vp pac] 30
   go_upto_region 4 with fail
   obtain⟨W3,hW3⟩ : ∃ W3,W3=w2.alloc (.cells #[.slice aa va ac,.slice ma vm mc,.int .i64 ex,.slice gaa gan gac,.slice paa vp pac] 30):=⟨_,rfl⟩
   obtain⟨b1,hb1⟩ : ∃ b1,b1=w2.heap.size:=⟨_,rfl⟩
   rw[← hW3] at hb3 hk3 ⊢
   rw[← hb1] at hk3 ⊢
   have hrk:=HRK.out W3 (below_next HB2.out hb3)
   have HB3:=Lib.hid (below_next HB2.out hb3)
   have HB23:=Lib.hid hb3
   have HK3:=Lib.hid hk3
   clear hW3 hb1 hb3 hk3
   go_wp2_with fail
   refine hrk.mono ?_
   rintro r w4 ⟨hb4,er2,rep2,rfl,hor2⟩
   obtain⟨rfl,hrep2⟩ : er2=0∧RRepIs l W3.heap.size rep2 w4:=by
    rcases hor2 with ⟨_,h,_⟩ | ⟨h1,_,h⟩
    ·exact absurd h HGOOD.out
    ·exact⟨h1,h⟩
   obtain⟨bm,no,gb,qb,fx,rfl,hbm,hno,hrf,hqr⟩:=hrep2
   have hif:(if knownL l=true then (splitR (everyL l)).1 else [])=(splitR (everyL l)).1:=by
    cases hk:knownL l with
    | true=>rfl
    | false=>rw[if_neg (by decide),split_no (by unfold knownL at hk;simpa using hk)]
   rw[hif] at hbm
   obtain⟨ba,bc,hfa,-,-⟩:=hbm.form keepsL
   obtain⟨na,nc,hfm,-,-⟩:=hno.form
   obtain⟨hba,hbn,hbc,hfg⟩ : ∃ a n c,gb=.slice a n c:=by
    have h:=hrf
    unfold RefV at h
    split at h
    ·obtain⟨b,_,h2⟩:=h
     obtain⟨a,n,c,h3,_⟩:=h2.form
     exact⟨a,n,c,h3⟩
    ·exact⟨_,_,_,h.2⟩
   obtain⟨qaa,qac,hfp,-,hqx⟩:=hqr.sg.form (keepsP (RefV.keeps _ _ _))
   subst hfa hfm hfg hfp
   rw[← HVA.out] at hbm
   rw[← HVM.out] at hno
   rw[← HVA.out,← HVM.out,← HVP.out]
   have HBM:=Lib.hid hbm
   have HNO:=Lib.hid hno
   have HRF:=Lib.hid hrf
   have HQX:=Lib.hid hqx
   have HIF:=Lib.hid hif
   clear hrk hor2 hbm hno hrf hqx hqr hif
   have hb5:=(Below.refl w4.heap.size w4).alloc (Nat.le_refl _) (.cells #[.slice ba va bc,.slice na vm nc,.int .i64 fx,.slice hba hbn hbc,.slice qaa vp qac] 36)
   have hk5:=Blk.new w4 #[.slice ba va bc,.slice na vm nc,.int .i64 fx,.slice hba hbn hbc,.slice qaa vp qac] 36
   go_upto_region 5 with fail
   obtain⟨W5,hW5⟩ : ∃ W5,W5=w4.alloc (.cells #[.slice ba va bc,.slice na vm nc,.int .i64 fx,.slice hba hbn hbc,.slice qaa vp qac] 36):=⟨_,rfl⟩
   obtain⟨b2,hb2⟩ : ∃ b2,b2=w4.heap.size:=⟨_,rfl⟩
   rw[← hW5] at hb5 hk5 ⊢
   rw[← hb2] at hk5 ⊢
   have hq1:=(HK3.out.below hb4).below hb5
   obtain⟨x0,x1,x2,x3,x4⟩:=five_cells hq1
   obtain⟨y0,y1,y2,y3,y4⟩:=five_cells hk5
   have HQ1:=Lib.hid hq1
   have HQ2:=Lib.hid hk5
   have HB25:=Lib.hid (below_next (below_next HB23.out hb4) hb5)
   have HB45:=Lib.hid hb5
   have HB5:=Lib.hid (below_next (below_next HB3.out hb4) hb5)
   have hvm12:(nmsL l).length≤1000000:=by
    rw[nms_len];have:=req_len l;have:=HFP.out.len;omega
   have htx:=(rTexts_any (nmsL l) (nmsL l) (.slice ma vm mc) (.slice na vm nc) W5 hvm12 hvm12 (Sl.below HMO.out HB25.out) (Sl.below HNO.out HB45.out)).mono (R':=fun r w'=>r=.returned (.bool true)∧Below W5.heap.size W5 w') fun r w' h=>⟨by rw[h.1];simp,h.2⟩
   clear hW5 hb2 hb5 hk5 hb4 hq1
   go_wp2_with fail
   refine htx.mono ?_
   rintro r w6 ⟨rfl,hb6⟩
   clear htx x0 x1 x2 x3 x4 y0 y1 y2 y3 y4
   obtain⟨x0,x1,x2,x3,x4⟩:=five_cells (HQ1.out.below hb6)
   obtain⟨y0,y1,y2,y3,y4⟩:=five_cells (HQ2.out.below hb6)
   have hbnd:∀ e∈(splitR (everyL l)).1,e.length≤1000000000:=fun e he=>Nat.le_trans (HSF.out.2 e he) (by omega)
   have hex:=(Exprs_any (splitR (everyL l)).1 (splitR (everyL l)).1 (.slice aa va ac) (.slice ba va bc) w6 (by have:=HSF.out.1;omega) (by have:=HSF.out.1;omega) hbnd hbnd (HAM.out.below keepsL (below_next HB25.out hb6)) (HBM.out.below keepsL (below_next HB45.out hb6))).mono (R':=fun r w'=>r=.returned (.bool true)∧Below w6.heap.size w6 w') fun r w' h=>⟨by rw[h.1];simp,by obtain⟨k,hk⟩:=h.2;rw[hk];exact (Below.refl _ _).trans ⟨rfl,rfl,rfl,Nat.le_refl _,fun _ _=>rfl⟩⟩
   have HB56:=Lib.hid hb6
   clear hb6
   go_wp2_with fail
   refine hex.mono ?_
   rintro r w7 ⟨rfl,hb7⟩
   have HB57:=Lib.hid (below_next HB56.out hb7)
   clear hex x0 x1 x2 x3 x4 y0 y1 y2 y3 y4 hb7 hbnd
   obtain⟨sv,hsv⟩ : ∃ sv,sv=sureB l (bn:Int):=⟨_,rfl⟩
   have HSV:=Lib.hid hsv
   clear hsv
   go_upto_region 9 with fail
   go_cut [9] (fun av wx=>av=.bool sv∧Below w7.heap.size w7 wx)
   case first =>
    by_cases hbu:bn=10000
    ·have hbu2:((bn:Int)==10000)=true:=by simp[hbu]
     have HBU:=Lib.hid hbu2
     have hnd:=nodes_any l (.slice a0 ln c0) w7 (by have:=HFP.out.len;omega) (fun x hx=>Nat.le_trans (HFP.out.each x hx) (by omega)) (HV.out.below keepsIt (below_next HB5.out HB57.out))
     obtain⟨nn,hnn⟩ : ∃ nn,nn=lenS (asmL l)+lenS (reqL l):=⟨_,rfl⟩
     rw[← hnn] at hnd
     have HNN:=Lib.hid hnn
     clear hbu hnn
     go_wp2_with fail
     refine hnd.mono ?_
     rintro r w8 ⟨rfl,hb8⟩
     obtain⟨y0,y1,y2,y3,y4⟩:=five_cells (HQ2.out.below (below_next HB57.out hb8))
     clear hnd
     by_cases h100:nn≤100
     ·have h100':(nn:Int)≤100:=by omega
      by_cases h5:va≤5
      ·have h5':(va:Int)≤5:=by omega
       have hs:sv=true:=by
        rw[HSV.out];unfold sureB
        rw[HIF.out,← HVA.out,← HNN.out,HBU.out]
        simp[h100,h5]
       subst hs
       go_wp2_with fail
       go_meet
       exact⟨by first | rfl | simp[h5'],hb8⟩
      ·have h5':¬ (va:Int)≤5:=by omega
       have hs:sv=false:=by
        rw[HSV.out];unfold sureB
        rw[HIF.out,← HVA.out,← HNN.out,HBU.out]
        simp[h100,h5]
       subst hs
       go_wp2_with fail
       go_meet
       exact⟨by first | rfl | simp[h5'],hb8⟩
     ·have h100':¬ (nn:Int)≤100:=by omega
      have hs:sv=false:=by
       rw[HSV.out];unfold sureB
       rw[← HNN.out]
       simp[h100]
      subst hs
      go_wp2_with fail
      go_meet
      exact⟨rfl,hb8⟩
    ·have hbu2:((bn:Int)==10000)=false:=by
      have:(bn:Int)≠10000:=by omega
      simp[this]
     have hs:sv=false:=by
      rw[HSV.out];unfold sureB;rw[hbu2];rfl
     subst hs
     clear hbu
     go_wp2_with fail
     go_meet
     exact⟨rfl,Below.refl _ _⟩
   case rest =>
    obtain⟨hav,hb8⟩:=hcut
    subst hav
    obtain⟨w8,rfl⟩ : ∃ w8:World,w8=wc:=⟨_,rfl⟩
    have HB58:=Lib.hid (below_next HB57.out hb8)
    clear hb8
    have hvp:VPair sv w8 w8 ex fx (.slice gaa gan gac) (.slice hba hbn hbc):=by
     rw[HSV.out]
     exact HFP.out.gap (HVD.out.below (below_next HB25.out HB58.out)) (HRF.out.below (below_next HB45.out HB58.out))
    obtain⟨l1,l2,s1,s2,heq,hno,hfit,n1,n2⟩:=hvp
    have hgl:=s1.len'
    have hft:=fits_yes ex fx sv hfit w8
    obtain⟨x0,x1,x2,x3,x4⟩:=five_cells (HQ1.out.below HB58.out)
    obtain⟨y0,y1,y2,y3,y4⟩:=five_cells (HQ2.out.below HB58.out)
    go_upto_region 10 with fail
    go_cut [110] (fun av wx=>av=.bool false∧Below w8.heap.size w8 wx)
    case first =>
     by_cases e1:ex=fx
     ·by_cases e2:ex=2
      ·have e1b:(ex==fx)=true:=by simp[e1]
       subst e2
       have hsm:=fun W (hW:Below w8.heap.size w8 W)=>(same20_any W (.slice gaa gan gac) (.slice hba hbn hbc) l1 l2 (s1.below hW) (s2.below hW) (by omega)).mono (R':=fun r w'=>r=.returned (.bool true)∧Below W.heap.size W w') fun r w' h=>⟨by rw[h.1,heq e1];simp,h.2⟩
       have HSM:=Lib.hid hsm
       clear e1 hsm hgl heq hno hfit n1 n2 s1 s2
       go_wp2_with fail
       refine hft.mono ?_
       rintro r w9 ⟨rfl,hw9⟩
       obtain rfl:=hw9
       go_wp2_with fail
       refine (HSM.out _ (Below.refl _ _)).mono ?_
       rintro r w10 ⟨rfl,hb10⟩
       clear x0 x1 x2 x3 x4 y0 y1 y2 y3 y4
       obtain⟨x0,x1,x2,x3,x4⟩:=five_cells (HQ1.out.below (below_next HB58.out hb10))
       go_wp2_with fail
       go_meet
       exact⟨by first | rfl | simp,hb10⟩
      ·have e1b:(ex==fx)=true:=by simp[e1]
       have e2b:(ex==2)=false:=by simp[e2]
       have hg0:gan=0:=by rw[hgl,hno e2];rfl
       subst hg0
       have hsm:=fun W (hW:Below w8.heap.size w8 W)=>(same20_any W (.slice gaa 0 gac) (.slice hba hbn hbc) l1 l2 (s1.below hW) (s2.below hW) (by omega)).mono (R':=fun r w'=>r=.returned (.bool true)∧Below W.heap.size W w') fun r w' h=>⟨by rw[h.1,heq e1];simp,h.2⟩
       have HSM:=Lib.hid hsm
       clear e1 hsm hgl heq hno hfit n1 n2 s1 s2
       go_wp2_with fail
       refine hft.mono ?_
       rintro r w9 ⟨rfl,hw9⟩
       obtain rfl:=hw9
       go_wp2_with fail
       refine (HSM.out _ (Below.refl _ _)).mono ?_
       rintro r w10 ⟨rfl,hb10⟩
       clear x0 x1 x2 x3 x4 y0 y1 y2 y3 y4
       obtain⟨x0,x1,x2,x3,x4⟩:=five_cells (HQ1.out.below (below_next HB58.out hb10))
       go_wp2_with fail
       go_meet
       exact⟨by first | rfl | simp,hb10⟩
     ·by_cases e2:ex=2
      ·have e1b:(ex==fx)=false:=by simp[e1]
       have e1c:¬ ex=fx:=e1
       subst e2
       clear e1 hgl heq hno hfit n1 n2 s1 s2
       go_wp2_with fail
       refine hft.mono ?_
       rintro r w9 ⟨rfl,hw9⟩
       obtain rfl:=hw9
       go_wp2_with fail
       go_meet
       exact⟨by first | rfl | simp,Below.refl _ _⟩
      ·have e1b:(ex==fx)=false:=by simp[e1]
       have e1c:¬ ex=fx:=e1
       have e2b:(ex==2)=false:=by simp[e2]
       have hg0:gan=0:=by rw[hgl,hno e2];rfl
       subst hg0
       clear e1 hgl heq hno hfit n1 n2 s1 s2
       go_wp2_with fail
       refine hft.mono ?_
       rintro r w9 ⟨rfl,hw9⟩
       obtain rfl:=hw9
       go_wp2_with fail
       go_meet
       exact⟨by first | rfl | simp,Below.refl _ _⟩
    case rest =>
     obtain⟨hav,hb11⟩:=hcut
     subst hav
     obtain⟨w11,rfl⟩ : ∃ w11:World,w11=wc:=⟨_,rfl⟩
     have HB511:=Lib.hid (below_next HB58.out hb11)
     clear hb11 hgl hft heq hno hfit s1 s2 n1 n2 x0 x1 x2 x3 x4 y0 y1 y2 y3 y4
     go_wp2_with fail
     have hvq:vp≤1000:=by
      have h1:=req_len l
      have h2:=HFP.out.len
      rw[HVP.out,← prsAt_full];exact prsAt_len (by omega) (by omega) (by omega)
     go_loopw [10] (fun iv wr=>∃ t:Nat,iv=.int .i64 t∧t≤vp∧Below W5.heap.size W5 wr) (fun iv _=>vp - (intOf iv).toNat)
     case atStart=>exact⟨0,rfl,Nat.zero_le _,HB511.out⟩
     case round =>
      obtain⟨t,rfl,ht,hBr⟩:=hrel
      have HBR:=Lib.hid hBr
      clear hBr
      obtain⟨x0,x1,x2,x3,x4⟩:=five_cells (HQ1.out.below HBR.out)
      obtain⟨y0,y1,y2,y3,y4⟩:=five_cells (HQ2.out.below HBR.out)
      by_cases hlt:t<vp
      ·obtain⟨⟨pi,pj⟩,hp⟩ : ∃ p,(prs (reqL l).length)[t]?=some p:=⟨_,List.getElem?_eq_getElem (by have:=HVP.out;omega)⟩
       have hpm:=prs_mem hp
       obtain⟨pb,po,cs1,hpa1,⟨vd,x1a,n1',x1c,hcs1,hvd1,-⟩,hc1⟩:=HPX.out wr (below_next HB25.out HBR.out) t (pi,pj) hp
       obtain⟨qb,qo,cs2,hpa2,⟨fd,x2a,x2n,x2c,hcs2,hvd2,-⟩,hc2⟩:=HQX.out wr (below_next HB45.out HBR.out) t (pi,pj) hp
       subst hpa1 hpa2 hcs1 hcs2
       have c0:wr.cell? ⟨pb,po+t * 4,none⟩=some (.int .i64 pi):=hc1 0 _ rfl
       have c1:wr.cell? ⟨pb,po+t * 4+1,none⟩=some (.int .i64 pj):=hc1 1 _ rfl
       have c2:wr.cell? ⟨pb,po+t * 4+2,none⟩=some (.int .i64 vd):=hc1 2 _ rfl
       have c3:wr.cell? ⟨pb,po+t * 4+3,none⟩=some (.slice x1a n1' x1c):=hc1 3 _ rfl
       have d0:wr.cell? ⟨qb,qo+t * 4,none⟩=some (.int .i64 pi):=hc2 0 _ rfl
       have d1:wr.cell? ⟨qb,qo+t * 4+1,none⟩=some (.int .i64 pj):=hc2 1 _ rfl
       have d2:wr.cell? ⟨qb,qo+t * 4+2,none⟩=some (.int .i64 fd):=hc2 2 _ rfl
       have d3:wr.cell? ⟨qb,qo+t * 4+3,none⟩=some (.slice x2a x2n x2c):=hc2 3 _ rfl
       have HV1:=Lib.hid hvd1
       have HV2:=Lib.hid hvd2
       have HPM:=Lib.hid hpm
       have htn:(t:Int)<(vp:Int):=by omega
       have ht0:(0:Int)≤(t:Int):=by omega
       have k1:=Blk.new wr #[.int .i64 pi,.int .i64 pj,.int .i64 vd,.slice x1a n1' x1c] 45
       have a1:=(Below.refl wr.heap.size wr).alloc (Nat.le_refl _) (.cells #[.int .i64 pi,.int .i64 pj,.int .i64 vd,.slice x1a n1' x1c] 45)
       have hz1:(wr.alloc (.cells #[.int .i64 pi,.int .i64 pj,.int .i64 vd,.slice x1a n1' x1c] 45)).heap.size=wr.heap.size+1:=by simp
       have hdl:=World.block_lt_of_cell? wr _ d0
       clear hc1 hc2 hp hvd1 hvd2 hpm
       go_upto_region 16 with fail
       obtain⟨Wa,hWa⟩ : ∃ Wa,Wa=wr.alloc (.cells #[.int .i64 pi,.int .i64 pj,.int .i64 vd,.slice x1a n1' x1c] 45):=⟨_,rfl⟩
       obtain⟨q1,hq1⟩ : ∃ q1,q1=wr.heap.size:=⟨_,rfl⟩
       rw[← hWa] at k1 a1 hz1 ⊢
       have e0:=(a1.cell (p:=⟨qb,qo+t * 4,none⟩) hdl).trans d0
       have e1:=(a1.cell (p:=⟨qb,qo+t * 4+1,none⟩) hdl).trans d1
       have e2:=(a1.cell (p:=⟨qb,qo+t * 4+2,none⟩) hdl).trans d2
       have e3:=(a1.cell (p:=⟨qb,qo+t * 4+3,none⟩) hdl).trans d3
       clear c0 c1 c2 c3 d0 d1 d2 d3 x0 x1 x2 x3 x4 y0 y1 y2 y3 y4
       obtain⟨y0,y1,y2,y3,y4⟩:=five_cells ((HQ2.out.below HBR.out).below a1)
       rw[← hq1] at k1 ⊢
       have HK1:=Lib.hid k1
       have HA1:=Lib.hid a1
       have k2:=Blk.new Wa #[.int .i64 pi,.int .i64 pj,.int .i64 fd,.slice x2a x2n x2c] 46
       have a2:=(Below.refl _ Wa).alloc (Nat.le_refl _) (.cells #[.int .i64 pi,.int .i64 pj,.int .i64 fd,.slice x2a x2n x2c] 46)
       clear hWa hq1 k1 a1 hz1 hdl
       go_upto_region 17 with fail
       obtain⟨W,hW⟩ : ∃ W,W=Wa.alloc (.cells #[.int .i64 pi,.int .i64 pj,.int .i64 fd,.slice x2a x2n x2c] 46):=⟨_,rfl⟩
       obtain⟨q2,hq2⟩ : ∃ q2,q2=Wa.heap.size:=⟨_,rfl⟩
       rw[← hW] at k2 a2 ⊢
       rw[← hq2] at k2 ⊢
       have HF1:=Lib.hid (HK1.out.below a2)
       have HF2:=Lib.hid k2
       have HBWR:=Lib.hid (below_next HA1.out a2)
       have HBW:=Lib.hid (below_next HBR.out HBWR.out)
       clear hW hq2 k2 a2 e0 e1 e2 e3 y0 y1 y2 y3 y4
       have hvp:VPair sv W W vd fd (.slice x1a n1' x1c) (.slice x2a x2n x2c):=by
        rw[HSV.out]
        exact HFP.out.pair HPM.out.1 HPM.out.2 (HV1.out.below HBWR.out) (HV2.out.below HBWR.out)
       obtain⟨l1,l2,s1,s2,heq,hno,hfit,n1,n2⟩:=hvp
       have hgl:=s1.len'
       have hft:=fits_yes vd fd sv hfit W
       obtain⟨f0,f1,f2,f3⟩:=four_cells HF1.out
       obtain⟨g0,g1,g2,g3⟩:=four_cells HF2.out
       go_cut [174] (fun av wx=>av=.bool false∧Below W.heap.size W wx)
       case first =>
        by_cases e1:vd=fd
        ·by_cases e2:vd=2
         ·have e1b:(vd==fd)=true:=by simp[e1]
          subst e2
          have hsm:=fun Wz (hW:Below W.heap.size W Wz)=>(same20_any Wz (.slice x1a n1' x1c) (.slice x2a x2n x2c) l1 l2 (s1.below hW) (s2.below hW) (by omega)).mono (R':=fun r w'=>r=.returned (.bool true)∧Below Wz.heap.size Wz w') fun r w' h=>⟨by rw[h.1,heq e1];simp,h.2⟩
          have HSM:=Lib.hid hsm
          clear e1 hsm hgl heq hno hfit n1 n2 s1 s2
          go_wp2_with fail
          refine hft.mono ?_
          rintro r w19 ⟨rfl,hw19⟩
          obtain rfl:=hw19
          go_wp2_with fail
          refine (HSM.out _ (Below.refl _ _)).mono ?_
          rintro r w20 ⟨rfl,hb20⟩
          clear f0 f1 f2 f3 g0 g1 g2 g3
          obtain⟨f0,f1,f2,f3⟩:=four_cells (HF1.out.below hb20)
          go_wp2_with fail
          go_meet
          exact⟨by first | rfl | simp,hb20⟩
         ·have e1b:(vd==fd)=true:=by simp[e1]
          have e2b:(vd==2)=false:=by simp[e2]
          have hg0:n1'=0:=by rw[hgl,hno e2];rfl
          subst hg0
          have hsm:=fun Wz (hW:Below W.heap.size W Wz)=>(same20_any Wz (.slice x1a 0 x1c) (.slice x2a x2n x2c) l1 l2 (s1.below hW) (s2.below hW) (by omega)).mono (R':=fun r w'=>r=.returned (.bool true)∧Below Wz.heap.size Wz w') fun r w' h=>⟨by rw[h.1,heq e1];simp,h.2⟩
          have HSM:=Lib.hid hsm
          clear e1 hsm hgl heq hno hfit n1 n2 s1 s2
          go_wp2_with fail
          refine hft.mono ?_
          rintro r w19 ⟨rfl,hw19⟩
          obtain rfl:=hw19
          go_wp2_with fail
          refine (HSM.out _ (Below.refl _ _)).mono ?_
          rintro r w20 ⟨rfl,hb20⟩
          clear f0 f1 f2 f3 g0 g1 g2 g3
          obtain⟨f0,f1,f2,f3⟩:=four_cells (HF1.out.below hb20)
          go_wp2_with fail
          go_meet
          exact⟨by first | rfl | simp,hb20⟩
        ·by_cases e2:vd=2
         ·have e1b:(vd==fd)=false:=by simp[e1]
          have e1c:¬ vd=fd:=e1
          subst e2
          clear e1 hgl heq hno hfit n1 n2 s1 s2
          go_wp2_with fail
          refine hft.mono ?_
          rintro r w19 ⟨rfl,hw19⟩
          obtain rfl:=hw19
          go_wp2_with fail
          go_meet
          exact⟨by first | rfl | simp,Below.refl _ _⟩
         ·have e1b:(vd==fd)=false:=by simp[e1]
          have e1c:¬ vd=fd:=e1
          have e2b:(vd==2)=false:=by simp[e2]
          have hg0:n1'=0:=by rw[hgl,hno e2];rfl
          subst hg0
          clear e1 hgl heq hno hfit n1 n2 s1 s2
          go_wp2_with fail
          refine hft.mono ?_
          rintro r w19 ⟨rfl,hw19⟩
          obtain rfl:=hw19
          go_wp2_with fail
          go_meet
          exact⟨by first | rfl | simp,Below.refl _ _⟩
       case rest =>
        obtain⟨hav,hb21⟩:=hcut
        subst hav
        obtain⟨w21,rfl⟩ : ∃ w21:World,w21=wc:=⟨_,rfl⟩
        have HBN:=Lib.hid (below_next HBW.out hb21)
        clear hb21 hgl hft heq hno hfit s1 s2 n1 n2 f0 f1 f2 f3 g0 g1 g2 g3
        go_wp2_with fail
        go_roundw
        case rel=>exact⟨t+1,by go_num,by omega,HBN.out⟩
        case measure=>simp[intOf];omega
      ·have hte:t=vp:=by omega
       subst hte
       have hlv:=HLIVE.out wr (below_next HB5.out HBR.out)
       go_wp2_with fail
       refine hlv.mono ?_
       rintro r w22 ⟨rfl,hb22⟩
       clear hlv
       go_wp2_with fail
       go_ret
       exact⟨rfl,below_next (below_next HB5.out HBR.out) hb22⟩
end Go.Proofs.YtmacepicoandkaaGreatDoor
