/- What the law of QxA needs of its own. -/
import Derived.WalkKit
import Derived.WalkSpells
import Derived.Deep.Onto
import Derived.Deep.AppendLies
import Derived.Deep.Draws
import Derived.OwnWalk
import Derived.Test.YtmacepicoandkaaGreatDoorProg
import Derived.Shelf.Abstract
import Derived.Lib.Strings
import Derived.WalkLawsBesides
import Derived.Outline
import Derived.Laws.EntriesVeiled
import Derived.Deep.RegionHeld3
import Derived.Deep.QuietTactic
import Derived.BigQuiet
import Derived.StillTailTactics
import Derived.RegionTactic
import Derived.Lib.Hide
import Derived.Deep.DeepCutAuto
import Derived.Deep.CutBlock
import Derived.Laws.MakeOwn
import Derived.Laws.OwnMore
import Derived.OneCell
import Derived.Maps.Own
import Derived.Lib.AtoiAllCases
import Derived.Lib.AtoiTie
import Derived.Lib.ItoaNum
import Derived.Shelf.Small.Wraps
import Derived.Shelf.Strconv.Atoi
import Derived.Shelf.Strconv.Itoa0
import Derived.Shelf.Strconv.Itoa1
import Derived.Shelf.LaysM
import Derived.Shelf.Strconv.Itoa2
import Derived.Shelf.Strconv.Itoa3
import Derived.Shelf.Strconv.AtoiErrFast
import Derived.Shelf.Strconv.ParseIntEmpty
import Derived.Shelf.Strconv.AtoiFail
import Derived.Shelf.Strconv.Clone
import Derived.Shelf.Strconv.SyntaxError
import Derived.Shelf.LaysC
import Derived.Shelf.Strconv.ToError
import Derived.Shelf.Strconv.AtoiErr
import Derived.Shelf.Strconv.ErrVar
import Derived.Shelf.Strconv.Lower
import Derived.Shelf.Strconv.ParseUint10
import Derived.Shelf.Strconv.ParseUint10Empty
import Derived.Shelf.Strconv.ParseUint10Any
import Derived.Shelf.Strconv.ParseInt10
import Derived.Shelf.Strconv.AtoiLong
import Derived.Shelf.Strconv.AtoiInnerAll
import Derived.Shelf.Strconv.RangeError
import Derived.Shelf.Strconv.ToErrorRange
import Derived.Shelf.Strconv.AtoiAll
import Derived.Shelf.Strconv.ErrVarAll
import Derived.Shelf.Strconv.ParseUintEmpty
import Derived.Shelf.Strconv.ParseUint10b64
import Derived.Shelf.Strconv.ParseUint10b32
import Derived.Shelf.Strconv.ParseUint10b16
import Derived.Shelf.Strconv.ParseUint10b8
import Derived.Shelf.Strconv.ParseUint10At
import Derived.Shelf.Strconv.ParseInt10At64
import Derived.Shelf.Strconv.ParseInt10At32
import Derived.Shelf.Strconv.ParseInt10At16
import Derived.Shelf.Strconv.ParseInt10At8
import Derived.Shelf.Strconv.ParseInt10All
import Derived.Shelf.Strings.Prefix
import Derived.Deep.RegionLaw
import Derived.Laws.IdiomStrings
import Derived.IntWalk
import Derived.Deep.DeepMust
import Derived.ArgAppend
import Derived.Deep.RegionLawGrows
import Derived.Test.YtmacepicoandkaaGreatDoorRows
import Derived.ProofKit
import Derived.OpenShut
import Derived.SizedLaws
import Derived.Lib.SmallJoins
import Derived.Deep.Slices
import Derived.Deep.Matrix
import Derived.ChangeSlices
import Derived.Test.YtmacepicoandkaaGreatDoorTie
import Derived.Lib.LaidU8
import Derived.Lib.LaidTab
import Derived.LaidLaws
import Derived.HandedShaped
import Derived.Lay
import Derived.SevenTiedAt
import Derived.Test.YtmacepicoandkaaGreatDoorJ1
import Derived.Test.YtmacepicoandkaaGreatDoorJ2
import Derived.Test.YtmacepicoandkaaGreatDoorJ3
import Derived.Test.YtmacepicoandkaaGreatDoorJ4
import Derived.Test.YtmacepicoandkaaGreatDoorJ5
import Derived.Test.YtmacepicoandkaaGreatDoorJ6
import Derived.Test.YtmacepicoandkaaGreatDoorJ7
import Derived.Test.YtmacepicoandkaaGreatDoorJ8
import Derived.Test.YtmacepicoandkaaGreatDoorJ9
import Derived.Test.YtmacepicoandkaaGreatDoorJ10
import Derived.Test.YtmacepicoandkaaGreatDoorJ11
import Derived.Test.YtmacepicoandkaaGreatDoorJ12
import Derived.Test.YtmacepicoandkaaGreatDoorJ13
import Derived.Test.YtmacepicoandkaaGreatDoorJ14
import Derived.Test.YtmacepicoandkaaGreatDoorJ15
import Derived.Test.YtmacepicoandkaaGreatDoorJ16
import Derived.Test.YtmacepicoandkaaGreatDoorJ17
import Derived.Test.YtmacepicoandkaaGreatDoorJ18
import Derived.Test.YtmacepicoandkaaGreatDoorJ19
import Derived.Test.YtmacepicoandkaaGreatDoorJ20
import Derived.Test.YtmacepicoandkaaGreatDoorJ21
import Derived.Test.YtmacepicoandkaaGreatDoorJ22
import Derived.Test.YtmacepicoandkaaGreatDoorJ23
import Derived.Test.YtmacepicoandkaaGreatDoorJ24
import Derived.Test.YtmacepicoandkaaGreatDoorJ25
import Derived.Test.YtmacepicoandkaaGreatDoorJ26
import Derived.Test.YtmacepicoandkaaGreatDoorJ27
import Derived.Test.YtmacepicoandkaaGreatDoorJ28
import Derived.Test.YtmacepicoandkaaGreatDoorJ29
import Derived.Test.YtmacepicoandkaaGreatDoorJ30
import Derived.Test.YtmacepicoandkaaGreatDoorJ31
import Derived.Test.YtmacepicoandkaaGreatDoorJ32
import Derived.Test.YtmacepicoandkaaGreatDoorJ33
import Derived.Test.YtmacepicoandkaaGreatDoorJ34
import Derived.Test.YtmacepicoandkaaGreatDoorJ35
import Derived.Test.YtmacepicoandkaaGreatDoorJ36
import Derived.Test.YtmacepicoandkaaGreatDoorJ37
import Derived.Test.YtmacepicoandkaaGreatDoorJ38
import Derived.Test.YtmacepicoandkaaGreatDoorJ39
import Derived.Test.YtmacepicoandkaaGreatDoorJ40
import Derived.Test.YtmacepicoandkaaGreatDoorJ41
import Derived.Test.YtmacepicoandkaaGreatDoorJ42
import Derived.Test.YtmacepicoandkaaGreatDoorJ43
import Derived.Test.YtmacepicoandkaaGreatDoorJ44
import Derived.Test.YtmacepicoandkaaGreatDoorJ45
import Derived.Test.YtmacepicoandkaaGreatDoorJ46
set_option linter.unusedVariables false
set_option linter.unusedSimpArgs false
namespace Go.Proofs.YtmacepicoandkaaGreatDoor
open Go.RowKit Go.Shelf Tx
def truthB (L:List (List Nd)) (l:List Bool) (so:Bool):Bool:=L.all fun e=>(Ux.valA e l).2==0&&(Ux.valA e l).1==so
set_option maxRecDepth 100000 in
set_option maxHeartbeats 2000000 in
theorem truths_any (L : List (List Nd)) (v : Value) (l : List Bool) (lv : Value) (so : Bool) (w : World) (hl : L.length ≤ 1000) (hM : ∀ e ∈ L, e.length ≤ 5000) (hal : l.length ≤ 1000) (hv : Sg 1 IsL w v L) (hb : SlBools w lv l) :
    Calls Tryz.prog 18 #[v, lv, .bool so] w fun r w' => r = .returned (.bool (truthB L l so)) ∧ Below w.heap.size w w' := by
  obtain ⟨a, c, rfl, hc, hx⟩ := rowX hv
  have hval := fun W (hW : Below w.heap.size w W) e (he : e ∈ L) u (hu : IsE W u e) => rVal21_any e u l lv W (by have := hM e he; omega) (by omega) hu (hb.below hW)
  obtain ⟨la, lc, rfl, -⟩ := hb.form
  obtain ⟨n, hn⟩ : ∃ n, n = L.length := ⟨_, rfl⟩
  rw [← hn] at hl hc ⊢
  obtain ⟨ll, hll⟩ : ∃ ll, ll = l.length := ⟨_, rfl⟩
  rw [← hll] at hval ⊢
  have HN := Lib.hid hn
  have HX := Lib.hid hx
  have HVL := Lib.hid hval
  obtain ⟨nb, hnb⟩ : ∃ nb, nb = w.heap.size := ⟨_, rfl⟩
  have HNB := Lib.hid hnb
  clear hn hx hval hM hv hb hal hll hnb
  go_enter Tryz.func18, Tryz.ntmps18
  go_wp2_with fail
  go_loopw [7] (fun iv wr => ∃ t : Nat, iv = .int .i64 t ∧ t ≤ n ∧ (∀ (j : Nat) (e : List Nd), j < t → L[j]? = some e → ((Ux.valA e l).2 == 0 && (Ux.valA e l).1 == so) = true) ∧ Below nb w wr) (fun iv _ => n - (intOf iv).toNat)
  case atStart => exact ⟨0, rfl, Nat.zero_le _, (fun j e h => by omega), Below.refl _ _⟩
  case round =>
    obtain ⟨t, rfl, ht, hok, hB⟩ := hrel
    have HOK := Lib.hid hok
    have HB : Hid (Below w.heap.size w wr) := by show Below _ _ _; rw [← HNB.out]; exact hB
    clear hok hB
    by_cases hlt : t < n
    · obtain ⟨e, he⟩ : ∃ e, L[t]? = some e := ⟨_, List.getElem?_eq_getElem (by have := HN.out; omega)⟩
      obtain ⟨b, o, u, rfl, hu, hcell⟩ := HX.out wr HB.out t e he
      have hcall := HVL.out wr HB.out e (List.mem_of_getElem? he) u hu
      obtain ⟨ua, uc, rfl, -, -⟩ := hu.form
      obtain ⟨y, hy⟩ : ∃ y, y = (Ux.valA e l).1 := ⟨_, rfl⟩
      obtain ⟨er, her⟩ : ∃ er, er = (Ux.valA e l).2 := ⟨_, rfl⟩
      rw [← hy, ← her] at hcall
      have HT : Hid (((Ux.valA e l).2 == 0 && (Ux.valA e l).1 == so) = (er == 0 && y == so)) := by show _ = _; rw [hy, her]
      have HE := Lib.hid he
      have htn : (t : Int) < (n : Int) := by omega
      have ht0 : (0 : Int) ≤ (t : Int) := by omega
      clear hy he hu her
      have HSTEP : Hid ((er == 0 && y == so) = true → ∀ (j : Nat) (e : List Nd), j < t + 1 → L[j]? = some e → ((Ux.valA e l).2 == 0 && (Ux.valA e l).1 == so) = true) := fun h j e' hj he' => by
        by_cases h2 : j = t
        · subst h2; rw [HE.out] at he'; cases he'; rw [HT.out]; exact h
        · exact HOK.out j e' (by omega) he'
      have HBADF : Hid ((er == 0 && y == so) = false → truthB L l so = false) := fun h => by
        unfold truthB
        rw [List.all_eq_false]
        exact ⟨e, List.mem_of_getElem? HE.out, by rw [HT.out, h]; decide⟩
      by_cases h0 : er = 0
      · subst h0
        cases y <;> cases so
        all_goals
          go_wp2_with fail
          refine hcall.mono ?_
          rintro r w3 ⟨rfl, hb3⟩
          have HB3 := Lib.hid (below_next HB.out hb3)
          clear hcall hb3
          first
          | (have HO2 := Lib.hid (HSTEP.out rfl)
             go_wp2_with fail
             go_roundw
             case rel => exact ⟨t + 1, by go_num, by omega, HO2.out, by rw [HNB.out]; exact HB3.out⟩
             case measure => simp [intOf]; omega)
          | (have HF := Lib.hid (HBADF.out rfl)
             go_wp2_with fail
             go_ret
             exact ⟨by rw [HF.out]; rfl, HB3.out⟩)
      · have e0 : (er != 0) = true := by simpa using h0
        have HF := Lib.hid (HBADF.out (by rw [show (er == 0) = false by simpa using h0]; rfl))
        go_wp2_with fail
        refine hcall.mono ?_
        rintro r w3 ⟨rfl, hb3⟩
        have HB3 := Lib.hid (below_next HB.out hb3)
        clear hcall hb3
        go_wp2_with fail
        go_ret
        exact ⟨by rw [HF.out]; rfl, HB3.out⟩
    · have hte : t = n := by omega
      subst hte
      have HF : Hid (truthB L l so = true) := by
        show _ = _
        unfold truthB
        rw [List.all_eq_true]
        intro e he
        obtain ⟨j, hj⟩ := List.mem_iff_getElem?.1 he
        exact HOK.out j e (by have := (List.getElem?_eq_some_iff.1 hj).1; have := HN.out; omega) hj
      go_wp2_with fail
      go_ret
      exact ⟨by rw [HF.out]; rfl, HB.out⟩
end Go.Proofs.YtmacepicoandkaaGreatDoor
namespace Go.Proofs.YtmacepicoandkaaGreatDoor
open Go.RowKit Go.Shelf Tx
theorem truth_yes {A:List (List Nd)} {l:List Bool} {so:Bool} (hm:∀ e∈A,Ux.mayA e l.length=true) (hs:∀ e∈A,Ux.valL l e=so):truthB A l so=true:=by
 unfold truthB
 rw[List.all_eq_true]
 intro e he
 rw[valA_yes (hm e he),hs e he]
 simp
theorem sat_held {A B:List (List Nd)} {l:List Bool} (h:satP A B l=true):(∀ e∈A,Ux.valL l e=true)∧∀ e∈B,Ux.valL l e=false:=by
 unfold satP at h
 rw[Bool.and_eq_true,List.all_eq_true,List.all_eq_true] at h
 exact⟨h.1,fun e he=>by simpa using h.2 e he⟩
theorem verd_shows {vars bud:Nat} {A B:List (List Nd)} {v:Value} {W:World} (hm:∀ e∈A++B,Ux.mayA e vars=true) (h:VerdIs vars bud A B 2 v W):∃ l:List Bool,SlBools W v l∧l.length=vars∧truthB A l true=true∧truthB B l false=true:=by
 rcases h with ⟨h1,_⟩ | ⟨_,k,_,h3,_,h5⟩ | ⟨h1,_⟩
 ·cases h1
 ·have hs:=sat_held h3
  exact⟨_,h5,row_len _ _,truth_yes (fun e he=>by rw[row_len];exact hm e (by simp[he])) hs.1,truth_yes (fun e he=>by rw[row_len];exact hm e (by simp[he])) hs.2⟩
 ·cases h1
set_option maxRecDepth 100000 in
set_option maxHeartbeats 8000000 in
theorem modesShow_any (l:List It) (v:Value) (bud:Int) (w:World) (G:Gl w) (hlm:l.length≤maxLen) (hMm:∀ x∈l,x.e.length≤maxLen) (hv:Sg 6 IsIt w v l) :
  Calls Tryz.prog 4 #[v,.int .i64 bud] w fun r w'=>r=.returned (.bool true)∧Below w.heap.size w w':=by
 have hfew:=few22_any l v w hlm hMm hv
 have hlive:=fun W (hW:Below w.heap.size w W)=>live22_any W (G.below hW)
 have HLIVE:=Lib.hid hlive
 have HV:=Lib.hid hv
 have HG:=Lib.hid G
 obtain⟨a0,c0,hav,-,-⟩:=hv.form keepsIt
 subst hav
 obtain⟨fb,hfb⟩ : ∃ fb,fb=fewI l:=⟨_,rfl⟩
 rw[← hfb] at hfew
 have HFB:=Lib.hid hfb
 obtain⟨ln,hln⟩ : ∃ ln,ln=l.length:=⟨_,rfl⟩
 rw[← hln] at hfew HV ⊢
 have HLN:=Lib.hid hln
 clear hlive hv G hfb hln hlm hMm
 cases fb
 ·go_enter Tryz.func4,Tryz.ntmps4
  go_wp2_with fail
  refine hfew.mono ?_
  rintro r w1 ⟨rfl,hw1⟩
  obtain rfl:=hw1
  clear hfew
  go_wp2_with fail
  refine (HLIVE.out _ (Below.refl _ _)).mono ?_
  rintro r w2 ⟨rfl,hb2⟩
  go_wp2_with fail
  go_ret
  exact⟨rfl,hb2⟩
 ·have hfp:FewP l:=by
   have h:=HFB.out
   unfold fewI at h
   have h:=h.symm
   simp only[Bool.and_eq_true,decide_eq_true_eq,List.all_eq_true] at h
   exact⟨h.1,h.2⟩
  have HFP:=Lib.hid hfp
  have hck:=check_any l (.slice a0 ln c0) bud w HG.out (by have:=hfp.len;omega) (fun x hx=>Nat.le_trans (hfp.each x hx) (by omega)) HV.out
  have hpa:=fun W (hW:Below w.heap.size w W)=>rParts_any l (.slice a0 ln c0) W (by have:=hfp.len;omega) (HV.out.below keepsIt hW)
  have HPA:=Lib.hid hpa
  clear hfp hpa
  go_enter Tryz.func4,Tryz.ntmps4
  go_wp2_with fail
  refine hfew.mono ?_
  rintro r w1 ⟨rfl,hw1⟩
  obtain rfl:=hw1
  clear hfew
  go_wp2_with fail
  refine hck.mono ?_
  rintro r w2 ⟨hb2,er,rep,rfl,hor⟩
  clear hck
  have HB2:=Lib.hid hb2
  clear hb2
  rcases hor with ⟨rfl,hbad,rfl⟩ | ⟨rfl,hgood,bn,rfl,am,mo,ga,pa,ex,rfl,ham,hmo,hvd,hpr⟩
  ·have hb3:=(Below.refl w2.heap.size w2).alloc (Nat.le_refl _) (.cells #[.slice none 0 0,.slice none 0 0,.int .i64 0,.slice none 0 0,.slice none 0 0] 30)
   have hlv:=HLIVE.out _ (below_next HB2.out hb3)
   go_wp2_with fail
   refine hlv.mono ?_
   rintro r w8 ⟨rfl,hb8⟩
   have HB8:=Lib.hid (below_next (below_next HB2.out hb3) hb8)
   clear hlv hb3 hb8
   go_wp2_with fail
   go_ret
   exact⟨rfl,HB8.out⟩
  ·have HGOOD:=Lib.hid hgood
   obtain⟨aa,an,ac,hfa⟩ : ∃ a n c,am=.slice a n c:=by obtain⟨a,c,h,_⟩:=ham.form keepsL;exact⟨_,_,_,h⟩
   obtain⟨ma,mn,mc,hfm⟩ : ∃ a n c,mo=.slice a n c:=by obtain⟨a,c,h,_⟩:=hmo.form;exact⟨_,_,_,h⟩
   obtain⟨gaa,gan,gac,hfg,hgal⟩:=hvd.form
   obtain⟨paa,pac,hfp,-,hpx⟩:=hpr.sg.form (keepsP (VerdQ.keeps _ _ _ _))
   subst hfa hfm hfg hfp
   obtain⟨vp,hvp⟩ : ∃ vp,vp=(prs (reqL l).length).length:=⟨_,rfl⟩
   rw[← hvp]
   have HVD:=Lib.hid hvd
   have HPX:=Lib.hid hpx
   have HVP:=Lib.hid hvp
   obtain⟨n,hn⟩ : ∃ n,n=(asmL l).length:=⟨_,rfl⟩
   obtain⟨m,hm⟩ : ∃ m,m=(reqL l).length:=⟨_,rfl⟩
   have hnl:n≤30:=by have:=asm_len l;have:=HFP.out.len;omega
   have hml:m≤30:=by have:=req_len l;have:=HFP.out.len;omega
   have HN:=Lib.hid hn
   have HMM:=Lib.hid hm
   clear hgood ham hmo hvd hpx hpr hvp hgal hn hm
   have hb3:=(Below.refl w2.heap.size w2).alloc (Nat.le_refl _) (.cells #[.slice aa an ac,.slice ma mn mc,.int .i64 ex,.slice gaa gan gac,.slice paa vp pac] 30)
   have hk3:=Blk.new w2 #[.slice aa an ac,.slice ma mn mc,.int .i64 ex,.slice gaa gan gac,.slice paa vp pac] 30
   go_upto_region 6 with fail
   obtain⟨W3,hW3⟩ : ∃ W3,W3=w2.alloc (.cells #[.slice aa an ac,.slice ma mn mc,.int .i64 ex,.slice gaa gan gac,.slice paa vp pac] 30):=⟨_,rfl⟩
   obtain⟨b1,hb1⟩ : ∃ b1,b1=w2.heap.size:=⟨_,rfl⟩
   rw[← hW3] at hb3 hk3 ⊢
   rw[← hb1] at hk3 ⊢
   have hcall:=HPA.out W3 (below_next HB2.out hb3)
   have HB3:=Lib.hid (below_next HB2.out hb3)
   have HB23:=Lib.hid hb3
   have HK3:=Lib.hid hk3
   clear hW3 hb1 hb3 hk3
   go_wp2_with fail
   refine hcall.mono ?_
   rintro r w4 ⟨va,vr,vn,rfl,hP⟩
   clear hcall
   have hpb:=hP.below
   have hra:=hP.ra
   have hrr:=hP.rr
   have hrn:=hP.rn
   rw[List.take_length] at hra hrr hrn
   have hsa:=hra.sg hpb
   have hsr:=hrr.sg hpb
   obtain⟨so,c1,hva,hcc1⟩:=hra.form
   rw[← HN.out] at hva hcc1
   subst hva
   obtain⟨xo,c2,hvr,hcc2⟩:=hrr.form
   rw[← HMM.out] at hvr hcc2
   subst hvr
   obtain⟨-,us,hUS⟩:=rowV hsa
   obtain⟨-,vs,hVS⟩:=rowV hsr
   obtain⟨na,nc,hvn,hncc,-⟩:=(names_sl hrn).form
   have hnml:(nmsL l).length=m:=by rw[HMM.out];exact nms_len l
   rw[hnml] at hvn hncc
   subst hvn
   have HPB:=Lib.hid hpb
   have HSA:=Lib.hid hsa
   have HUS:=Lib.hid hUS
   have HVS:=Lib.hid hVS
   clear hP hpb hra hrr hrn hsa hsr hUS hVS hnml
   go_wp2_with (at_builtin;refine wpList_join rowE rfl _ _ rfl none so 0 n c1 [] us rfl rfl rfl (by rw[HUS.out.len];exact HN.out.symm) (by omega) (fun _=>rfl) (fun b hb=>by cases hb) (fun j u hj=>?c1) HUS.out.one ?c2)
   case c1 =>
    cases so with
    | none =>
     have h2:us.length=0:=by rw[HUS.out.len,HUS.out.none rfl];rfl
     have h3:=(List.getElem?_eq_some_iff.1 hj).1
     omega
    | some ad=>exact⟨ad,rfl,HUS.out.cell ad rfl j u hj⟩
   case c2 =>
    intro v2 w5 hb2 hj
    have ho2:w5.ownsRow w4.heap.size 54 1 v2 n us:=by
     rcases hj with ⟨h1,h2⟩ | h
     ·have h3:n=0:=by have:=HUS.out.len;rw[h1] at this;rw[HN.out,← this];rfl
      rw[h1,h2,h3];exact World.ownsRow_nil _ _ _ _
     ·simpa using h
    have HO2:=Lib.hid ho2
    have HB45:=Lib.hid hb2
    have HVS2:=Lib.hid (HVS.out.below hb2)
    clear hj ho2 hb2
    have hvform:∃ a c,v2=.slice a n c:=by
     rcases HO2.out.2 with ⟨h,h0⟩ | ⟨g,cap,cur,h,_⟩
     ·exact⟨none,0,by rw[h,h0]⟩
     ·exact⟨_,cap,h⟩
    obtain⟨ea,ec,hv2⟩:=hvform
    subst hv2
    go_wp2_with (at_builtin;refine wpList_join_own rowE rfl _ _ rfl w4.heap.size (.slice ea n ec) n us rfl HO2.out xo m c2 vs rfl (by rw[HVS2.out.len];exact HMM.out.symm) (by omega) HB45.out.size (fun j u hj=>?c3) HVS2.out.one ?c4)
    case c3 =>
     cases xo with
     | none =>
      have h2:vs.length=0:=by rw[HVS2.out.len,HVS2.out.none rfl];rfl
      have h3:=(List.getElem?_eq_some_iff.1 hj).1
      omega
     | some ad=>exact⟨ad,rfl,HVS2.out.cell ad rfl j u hj⟩
    case c4 =>
     intro v3 w6 ho3 hg3 hf3
     have hb46:Below w4.heap.size w4 w6:=HB45.out.grown hg3 HB45.out.size (fun k hk=>(HO2.out.lt k hk).1)
     have hjs:Sg 1 IsL w6 v3 (everyL l):=joined (T:=54) (m:=m) HUS.out HSA.out (fun i u e hu he=>HVS.out.isE i u e hu he) HVS.out.len hb46 (Or.inr ho3)
     have HEL:Hid ((everyL l).length=n+m):=by show _=_;unfold everyL;rw[List.length_append,← HN.out,← HMM.out]
     obtain⟨ja,jc,hv3,hjc,hjx⟩:=hjs.form keepsL
     rw[HEL.out] at hv3 hjc
     subst hv3
     have HJS:=Lib.hid hjs
     have HJX:=Lib.hid hjx
     have HB46:=Lib.hid hb46
     have HB36:=Lib.hid (below_next HPB.out hb46)
     clear ho3 hg3 hf3 hb46 hjs hjx HVS HUS HSA HVS2 HO2 HB45
     have hM200:=every_len (l:=l) (M:=200) (fun x hx=>Nat.le_trans (HFP.out.each x hx) (by omega))
     have hsp:=R.Split_any (everyL l) (.slice ja (n+m) jc) w6 (by have:=HFP.out.lens;omega) (fun e he=>Nat.le_trans (hM200 e he) (by omega)) HJS.out
     have HM2:=Lib.hid hM200
     clear hM200
     go_wp2_with fail
     refine hsp.mono ?_
     rintro r w7 ⟨fv,ov,rfl,hfv,hov,hb7⟩
     obtain⟨fa,fc,rfl,hfc,-⟩:=rowX (sg_of_rwe hfv)
     obtain⟨er,her0⟩ : ∃ er,er=(splitR (everyL l)).2.2:=⟨_,rfl⟩
     rw[← her0]
     have HER:=Lib.hid her0
     have hov0:=sg_of_rwe hov
     have hovF:∃ oa oc,ov=.slice oa (splitR (everyL l)).2.1.length oc∧(splitR (everyL l)).2.1.length≤oc∧((oa=none∧(splitR (everyL l)).2.1.length=0∧oc=0)∨∃ g,oa=some ⟨g,0,none⟩):=by
      obtain⟨us,h1,_⟩:=hov.row
      rcases ownF_row h1 with ⟨h2,h3⟩ | ⟨g,c,h2,h3⟩
      ·exact⟨none,0,by rw[h2,h3],by omega,Or.inl ⟨rfl,h3,rfl⟩⟩
      ·exact⟨_,c,h2,h3,Or.inr ⟨g,rfl⟩⟩
     obtain⟨oa,oc,rfl,hoc,hoF⟩:=hovF
     have HB37:=Lib.hid (below_next HB36.out hb7)
     have HOV:=Lib.hid hov0
     have HKW0:=Lib.hid (HK3.out.below HB37.out)
     have hlen0:(splitR (everyL l)).1.length≤30:=(splitR_few (l:=everyL l) (by have:=HFP.out.lens;omega) HM2.out).1.1
     have HL30:=Lib.hid hlen0
     obtain⟨at1,hat⟩ : ∃ at1,at1=(splitR (everyL l)).1.length:=⟨_,rfl⟩
     rw[← hat]
     clear hsp hfv hov hb7 her0 hov0 hfc hlen0 hat
     by_cases her:er=0
     ·subst her
      have hkn:knownL l=true:=by unfold knownL;rw[← HER.out];rfl
      obtain⟨ho1,ho2,ho3,ho4⟩:=HFP.out.outs hkn
      have hOL:overL l=(splitR (everyL l)).2.1:=by unfold overL;rw[hkn];rfl
      have hel:(everyL l).length=n+m:=HEL.out
      rw[ho1,hel] at hoc hoF HOV ⊢
      have HOLL:Hid (n+m=(splitR (everyL l)).2.1.length):=by show _=_;rw[ho1,hel]
      have HMAY:Hid (∀ e∈(splitR (everyL l)).2.1,Ux.mayA e (splitR (everyL l)).1.length=true):=ho3
      have HML:Hid (∀ e∈(splitR (everyL l)).2.1,e.length≤5000):=fun e he=>(outs_may HM2.out (by rw[← HER.out]) e he).2.1
      have hvk:VerdIs (splitR (everyL l)).1.length bn ((splitR (everyL l)).2.1.take n) ((splitR (everyL l)).2.1.drop n) ex (.slice gaa gan gac) w2:=by
       have h:=HVD.out
       unfold VerdQ at h
       rw[hkn,if_pos rfl,hOL,← HN.out] at h
       exact h
      have HVK:=Lib.hid hvk
      have HKN:=Lib.hid hkn
      have HOL2:=Lib.hid hOL
      have HOF:=Lib.hid hoF
      clear hkn ho1 ho2 ho3 ho4 hOL hel hvk hoF
      obtain⟨x0,x1,x2,x3,x4⟩:=five_cells HKW0.out
      go_upto_region 13 with fail
      go_cut [77] (fun av wx=>av=.bool false∧Below w7.heap.size w7 wx)
      case first =>
       by_cases e2:ex=2
       ·subst e2
        obtain⟨l0,s00,hl0,htA,htB⟩:=verd_shows (fun e he=>HMAY.out e (by rw[List.take_append_drop] at he;exact he)) HVK.out
        have s0:=s00.below (below_next HB23.out HB37.out)
        have hl0':l0.length≤1000:=by rw[hl0];have:=HL30.out;omega
        have HKW:Hid (∀ W,Below w7.heap.size w7 W→W.cell? ⟨b1,2,none⟩=some (.int .i64 2)∧W.cell? ⟨b1,3,none⟩=some (.slice gaa gan gac)):=fun W hW=>by
         obtain⟨_,_,h2,h3,_⟩:=five_cells (HKW0.out.below hW)
         exact⟨h2,h3⟩
        have hlA:((splitR (everyL l)).2.1.take n).length≤1000:=by rw[List.length_take];omega
        have hlB:((splitR (everyL l)).2.1.drop n).length≤1000:=by rw[List.length_drop];have:=HOLL.out;omega
        have hMA:∀ e∈(splitR (everyL l)).2.1.take n,e.length≤5000:=fun e he=>HML.out e (List.mem_of_mem_take he)
        have hMB:∀ e∈(splitR (everyL l)).2.1.drop n,e.length≤5000:=fun e he=>HML.out e (List.mem_of_mem_drop he)
        clear s00 x0 x1 x2 x3 x4
        rcases HOF.out with ⟨g1,g2,g3⟩ | ⟨g,g1⟩
        ·obtain rfl:n=0:=by omega
         obtain rfl:m=0:=by omega
         have hov:(splitR (everyL l)).2.1=[]:=List.eq_nil_of_length_eq_zero (by have:=HOLL.out;omega)
         rw[hov] at htA htB hlA hlB hMA hMB
         subst g1 g3
         clear g2 hov
         have h1:=fun W (hW:Below w7.heap.size w7 W)=>(truths_any (([] : List (List Nd)).take 0) (.slice none 0 0) l0 (.slice gaa gan gac) true W hlA hMA (by omega) (Sg.nil_) (s0.below hW)).mono (R':=fun r w'=>r=.returned (.bool true)∧Below W.heap.size W w') fun r w' h=>⟨by rw[h.1,htA],h.2⟩
         have h2:=fun W (hW:Below w7.heap.size w7 W)=>(truths_any (([] : List (List Nd)).drop 0) (.slice none 0 0) l0 (.slice gaa gan gac) false W hlB hMB (by omega) (Sg.nil_) (s0.below hW)).mono (R':=fun r w'=>r=.returned (.bool true)∧Below W.heap.size W w') fun r w' h=>⟨by rw[h.1,htB],h.2⟩
         have H1:=Lib.hid h1
         have H2:=Lib.hid h2
         have hKA:w7.cell? ⟨b1,2,none⟩=some (.int .i64 2)∧w7.cell? ⟨b1,3,none⟩=some (.slice gaa gan gac):=(HKW.out w7 (Below.refl _ _))
         have hbd:Below w7.heap.size w7 w7.drew:=(Below.refl _ _).drew
         have hKB:=HKW.out _ hbd
         clear h1 h2 hlA hlB hMA hMB htA htB s0 hl0
         go_region_held3 (fun w'=>w'.cell? ⟨b1,2,none⟩=some (.int .i64 2)∧w'.cell? ⟨b1,3,none⟩=some (.slice gaa gan gac))
          (first | exact hKA | exact hKB | exact hKC | exact hKD)
          ((first
           | (go_at_call 18;(with_reducible refine (H2.out _ hbC).mono ?_);rintro r w12 ⟨rfl,hb12⟩;have hbD:=below_next hbC hb12;have hKD:=HKW.out _ hbD)
           | (go_at_call 18;(with_reducible refine (H1.out _ (by first | exact hbd | exact Below.refl _ _)).mono ?_);rintro r w10 ⟨rfl,hb10⟩;have hbC:=below_next hbd hb10;have hKC:=HKW.out _ hbC)))
         go_wp2_with fail
         go_meet
         exact⟨by first | rfl | simp,hbD⟩
        ·subst g1
         have hsoW:=fun W (hW:Below w7.heap.size w7 W)=>HOV.out.below keepsL hW
         have hn0:(0:Int)≤(n:Int):=by omega
         have hnm:(n:Int)≤((n+m:Nat):Int):=by omega
         have hi2:(n:Int)≤(oc:Int):=by omega
         have hi3:(n:Int)≤(n:Int)+(m:Int):=by omega
         have hi4:(n:Int)+(m:Int)≤(oc:Int):=by omega
         have hi5:n≤n+m:=by omega
         have hi6:n≤oc:=by omega
         have HSW:=Lib.hid hsoW
         clear hsoW
         by_cases hcc:oc=n
         ·subst hcc
          obtain rfl:m=0:=by omega
          have h1:=fun W (hW:Below w7.heap.size w7 W)=>(truths_any ((splitR (everyL l)).2.1.take oc) (.slice (some ⟨g,0,none⟩) oc oc) l0 (.slice gaa gan gac) true W hlA hMA (by omega) (sg_take (HSW.out W hW) HOLL.out (by omega) (Nat.le_refl _)) (s0.below hW)).mono (R':=fun r w'=>r=.returned (.bool true)∧Below W.heap.size W w') fun r w' h=>⟨by rw[h.1,htA],h.2⟩
          have h2:=fun W (hW:Below w7.heap.size w7 W)=>(truths_any ((splitR (everyL l)).2.1.drop oc) (.slice (some ⟨g,0,none⟩) 0 0) l0 (.slice gaa gan gac) false W hlB hMB (by omega) (by rw[List.drop_of_length_le (by have:=HOLL.out;omega)];exact⟨[],Or.inl ⟨rfl,_,_,rfl⟩,rfl,fun i c x hc _=>by simp at hc⟩) (s0.below hW)).mono (R':=fun r w'=>r=.returned (.bool true)∧Below W.heap.size W w') fun r w' h=>⟨by rw[h.1,htB],h.2⟩
          have H1:=Lib.hid h1
          have H2:=Lib.hid h2
          have hKA:w7.cell? ⟨b1,2,none⟩=some (.int .i64 2)∧w7.cell? ⟨b1,3,none⟩=some (.slice gaa gan gac):=(HKW.out w7 (Below.refl _ _))
          have hbd:Below w7.heap.size w7 w7.drew:=(Below.refl _ _).drew
          have hKB:=HKW.out _ hbd
          clear h1 h2 hlA hlB hMA hMB htA htB s0 hl0
          go_region_held3 (fun w'=>w'.cell? ⟨b1,2,none⟩=some (.int .i64 2)∧w'.cell? ⟨b1,3,none⟩=some (.slice gaa gan gac))
           (first | exact hKA | exact hKB | exact hKC | exact hKD)
           ((first
            | (go_at_call 18;(with_reducible refine (H2.out _ hbC).mono ?_);rintro r w12 ⟨rfl,hb12⟩;have hbD:=below_next hbC hb12;have hKD:=HKW.out _ hbD)
            | (go_at_call 18;(with_reducible refine (H1.out _ (by first | exact hbd | exact Below.refl _ _)).mono ?_);rintro r w10 ⟨rfl,hb10⟩;have hbC:=below_next hbd hb10;have hKC:=HKW.out _ hbC)))
          go_wp2_with fail
          go_meet
          exact⟨by first | rfl | simp,hbD⟩
         ·have hmm:n+m - n=m:=by omega
          have h1:=fun W (hW:Below w7.heap.size w7 W)=>(truths_any ((splitR (everyL l)).2.1.take n) (.slice (some ⟨g,0,none⟩) n oc) l0 (.slice gaa gan gac) true W hlA hMA (by omega) (sg_take (HSW.out W hW) HOLL.out (by omega) (by omega)) (s0.below hW)).mono (R':=fun r w'=>r=.returned (.bool true)∧Below W.heap.size W w') fun r w' h=>⟨by rw[h.1,htA],h.2⟩
          have h2:=fun W (hW:Below w7.heap.size w7 W)=>(truths_any ((splitR (everyL l)).2.1.drop n) (.slice (some ⟨g,n,none⟩) m (oc - n)) l0 (.slice gaa gan gac) false W hlB hMB (by omega) (by have h:=sg_drop (c:=oc - n) (HSW.out W hW) HOLL.out (by omega:n≤n+m) (by omega);rw[hmm] at h;exact h) (s0.below hW)).mono (R':=fun r w'=>r=.returned (.bool true)∧Below W.heap.size W w') fun r w' h=>⟨by rw[h.1,htB],h.2⟩
          have H1:=Lib.hid h1
          have H2:=Lib.hid h2
          have hKA:w7.cell? ⟨b1,2,none⟩=some (.int .i64 2)∧w7.cell? ⟨b1,3,none⟩=some (.slice gaa gan gac):=(HKW.out w7 (Below.refl _ _))
          have hbd:Below w7.heap.size w7 w7.drew:=(Below.refl _ _).drew
          have hKB:=HKW.out _ hbd
          clear h1 h2 hlA hlB hMA hMB htA htB s0 hl0
          go_region_held3 (fun w'=>w'.cell? ⟨b1,2,none⟩=some (.int .i64 2)∧w'.cell? ⟨b1,3,none⟩=some (.slice gaa gan gac))
           (first | exact hKA | exact hKB | exact hKC | exact hKD)
           ((first
            | (go_at_call 18;(with_reducible refine (H2.out _ hbC).mono ?_);rintro r w12 ⟨rfl,hb12⟩;have hbD:=below_next hbC hb12;have hKD:=HKW.out _ hbD)
            | (go_at_call 18;(with_reducible refine (H1.out _ (by first | exact hbd | exact Below.refl _ _)).mono ?_);rintro r w10 ⟨rfl,hb10⟩;have hbC:=below_next hbd hb10;have hKC:=HKW.out _ hbC)))
          go_wp2_with fail
          go_meet
          exact⟨by first | rfl | simp,hbD⟩
       ·have e2b:(ex==2)=false:=by simp[e2]
        go_quiet (fail)
        go_wp2_with fail
        go_meet
        exact⟨by first | rfl | simp,(Below.refl _ _).trans ⟨rfl,rfl,rfl,Nat.le_refl _,fun _ _=>rfl⟩⟩
      case rest =>
       obtain⟨hav,hb9⟩:=hcut
       subst hav
       obtain⟨w9,rfl⟩ : ∃ w9:World,w9=wc:=⟨_,rfl⟩
       have HB79:=Lib.hid hb9
       clear hb9 x0 x1 x2 x3 x4
       have hvq:vp≤1000:=by
        have h1:=req_len l
        have h2:=HFP.out.len
        rw[HVP.out,← prsAt_full];exact prsAt_len (by omega) (by omega) (by omega)
       go_wp2_with fail
       go_loopw [14] (fun iv wr=>∃ t:Nat,iv=.int .i64 t∧t≤vp∧Below w7.heap.size w7 wr) (fun iv _=>vp - (intOf iv).toNat)
       case atStart=>exact⟨0,rfl,Nat.zero_le _,HB79.out⟩
       case round =>
        obtain⟨t,rfl,ht,hBr⟩:=hrel
        have HBR:=Lib.hid hBr
        clear hBr
        obtain⟨x0,x1,x2,x3,x4⟩:=five_cells (HKW0.out.below HBR.out)
        by_cases hlt:t<vp
        ·obtain⟨⟨pi,pj⟩,hp⟩ : ∃ p,(prs (reqL l).length)[t]?=some p:=⟨_,List.getElem?_eq_getElem (by have:=HVP.out;omega)⟩
         have hpm:=prs_mem hp
         rw[← HMM.out] at hpm
         simp only at hpm
         obtain⟨pb,po,cs1,hpa1,⟨vd,x1a,n1',x1c,hcs1,hvd1,-⟩,hc1⟩:=HPX.out wr (below_next (below_next HB23.out HB37.out) HBR.out) t (pi,pj) hp
         subst hpa1 hcs1
         have c0:wr.cell? ⟨pb,po+t * 4,none⟩=some (.int .i64 pi):=hc1 0 _ rfl
         have c1:wr.cell? ⟨pb,po+t * 4+1,none⟩=some (.int .i64 pj):=hc1 1 _ rfl
         have c2:wr.cell? ⟨pb,po+t * 4+2,none⟩=some (.int .i64 vd):=hc1 2 _ rfl
         have c3:wr.cell? ⟨pb,po+t * 4+3,none⟩=some (.slice x1a n1' x1c):=hc1 3 _ rfl
         obtain⟨xe,hxe⟩ : ∃ xe,(splitR (everyL l)).2.1[n+pi]?=some xe:=⟨_,List.getElem?_eq_getElem (by have:=HOLL.out;omega)⟩
         obtain⟨ye,hye⟩ : ∃ ye,(splitR (everyL l)).2.1[n+pj]?=some ye:=⟨_,List.getElem?_eq_getElem (by have:=HOLL.out;omega)⟩
         have hvk:VerdIs (splitR (everyL l)).1.length bn ((splitR (everyL l)).2.1.take n++[xe,ye]) [] vd (.slice x1a n1' x1c) wr:=by
          have h:=hvd1
          unfold VerdQ at h
          rw[HKN.out,if_pos rfl,pairE_at HN.out (by rw[HOL2.out];exact hxe) (by rw[HOL2.out];exact hye),HOL2.out] at h
          exact h
         have HVK2:=Lib.hid hvk
         have HXE:=Lib.hid hxe
         have HYE:=Lib.hid hye
         have HPM:=Lib.hid hpm
         have htn:(t:Int)<(vp:Int):=by omega
         have ht0:(0:Int)≤(t:Int):=by omega
         have hi0:(0:Int)≤(pi:Int):=by omega
         have hij:(pi:Int)<(pj:Int):=by omega
         have hjm:(pj:Int)<(m:Int):=by omega
         have k1:=Blk.new wr #[.int .i64 pi,.int .i64 pj,.int .i64 vd,.slice x1a n1' x1c] 45
         have a1:=(Below.refl wr.heap.size wr).alloc (Nat.le_refl _) (.cells #[.int .i64 pi,.int .i64 pj,.int .i64 vd,.slice x1a n1' x1c] 45)
         clear hc1 hp hvd1 hvk hxe hye
         go_upto_region 19 with fail
         obtain⟨W,hW⟩ : ∃ W,W=wr.alloc (.cells #[.int .i64 pi,.int .i64 pj,.int .i64 vd,.slice x1a n1' x1c] 45):=⟨_,rfl⟩
         obtain⟨q1,hq1⟩ : ∃ q1,q1=wr.heap.size:=⟨_,rfl⟩
         rw[← hW] at k1 a1 ⊢
         rw[← hq1] at k1 ⊢
         have HF1:=Lib.hid k1
         have HBW:=Lib.hid (below_next HBR.out a1)
         have HA1:=Lib.hid a1
         clear hW hq1 k1 a1 c0 c1 c2 c3 x0 x1 x2 x3 x4
         obtain⟨f0,f1,f2,f3⟩:=four_cells HF1.out
         go_upto_region 21 with fail
         go_cut [142] (fun av wx=>av=.bool false∧Below W.heap.size W wx)
         case first =>
          by_cases e2:vd=2
          ·subst e2
           obtain⟨l0,s00,hl0,htA,-⟩:=verd_shows (fun e he=>HMAY.out e (by
            rw[List.append_nil] at he
            rcases List.mem_append.1 he with he | he
            ·exact List.mem_of_mem_take he
            ·simp only[List.mem_cons,List.not_mem_nil,or_false] at he
             rcases he with rfl | rfl
             ·exact List.mem_of_getElem? HXE.out
             ·exact List.mem_of_getElem? HYE.out)) HVK2.out
           have hsplit:truthB ((splitR (everyL l)).2.1.take n) l0 true=true∧truthB [xe,ye] l0 true=true:=by
            unfold truthB at htA ⊢
            rw[List.all_append,Bool.and_eq_true] at htA
            exact htA
           obtain⟨htT,htP⟩:=hsplit
           have s0:=s00.below HA1.out
           have hl0':l0.length≤1000:=by rw[hl0];have:=HL30.out;omega
           obtain⟨g,hg⟩ : ∃ g,oa=some ⟨g,0,none⟩:=by
            have h3:=HPM.out.2
            rcases HOF.out with ⟨_,h2,_⟩ | h
            ·omega
            ·exact h
           subst hg
           have hSW:=HOV.out.below keepsL HBW.out
           obtain⟨a',c',e',-,hfx⟩:=hSW.form keepsL
           rw[← HOLL.out] at e'
           cases e'
           have hget:∀ (k:Nat) (e:List Nd),(splitR (everyL l)).2.1[k]?=some e→∃ xa xc,IsE W (.slice xa e.length xc) e∧W.cell? ⟨g,k,none⟩=some (.slice xa e.length xc):=by
            intro k e hk
            obtain⟨b,o,cs,e1,⟨u,rfl,hu⟩,hc⟩:=hfx W (Below.refl _ _) k e hk
            cases e1
            obtain⟨xa,xc,rfl,-,-⟩:=hu.form
            refine⟨xa,xc,hu,?_⟩
            have h:=hc 0 _ rfl
            simpa using h
           obtain⟨xa,xc,hx,hxc⟩:=hget (n+pi) xe HXE.out
           obtain⟨ya,yc,hy,hyc⟩:=hget (n+pj) ye HYE.out
           have hT:=sg_take (n:=n) (c:=oc) hSW HOLL.out (by omega) (by omega)
           have h1:=fun Wz (hW:Below W.heap.size W Wz)=>(truths_any ((splitR (everyL l)).2.1.take n) (.slice (some ⟨g,0,none⟩) n oc) l0 (.slice x1a n1' x1c) true Wz (by rw[List.length_take];omega) (fun e he=>HML.out e (List.mem_of_mem_take he)) hl0' (hT.below keepsL hW) (s0.below hW)).mono (R':=fun r w'=>r=.returned (.bool true)∧Below Wz.heap.size Wz w') fun r w' h=>⟨by rw[h.1,htT],h.2⟩
           have h2:∀ Wz,Below W.heap.size W Wz→Calls Tryz.prog 18 #[.slice (some ⟨Wz.heap.size,0,none⟩) 2 2,.slice x1a n1' x1c,.bool true] (Wz.alloc (.cells #[.slice xa xe.length xc,.slice ya ye.length yc] 54)) (fun r w'=>r=.returned (.bool true)∧Below Wz.heap.size Wz w'):=fun Wz hW=>by
            have hba:Below Wz.heap.size Wz (Wz.alloc (.cells #[.slice xa xe.length xc,.slice ya ye.length yc] 54)):=(Below.refl _ _).alloc (Nat.le_refl _) _
            have hl2:Sg 1 IsL (Wz.alloc (.cells #[.slice xa xe.length xc,.slice ya ye.length yc] 54)) (.slice (some ⟨Wz.heap.size,0,none⟩) 2 2) [xe,ye]:=lit2E (Sl.below hx hW) (Sl.below hy hW)
            refine (truths_any [xe,ye] _ l0 (.slice x1a n1' x1c) true _ (by simp) (fun e he=>?_) hl0' hl2 (s0.below (below_next hW hba))).mono fun r w' h=>⟨by rw[h.1,htP],below_next hba h.2⟩
            simp only[List.mem_cons,List.not_mem_nil,or_false] at he
            rcases he with rfl | rfl
            ·exact HML.out _ (List.mem_of_getElem? HXE.out)
            ·exact HML.out _ (List.mem_of_getElem? HYE.out)
           obtain⟨xl,hxl⟩ : ∃ xl,xl=xe.length:=⟨_,rfl⟩
           obtain⟨yl,hyl⟩ : ∃ yl,yl=ye.length:=⟨_,rfl⟩
           rw[← hxl] at h2 hxc
           rw[← hyl] at h2 hyc
           have H1:=Lib.hid h1
           have H2:=Lib.hid h2
           have hgs:g<W.heap.size:=World.block_lt_of_cell? W _ hxc
           obtain⟨p1,hp1⟩ : ∃ p1,p1=n+pi:=⟨_,rfl⟩
           obtain⟨p2,hp2⟩ : ∃ p2,p2=n+pj:=⟨_,rfl⟩
           have hp1000:n+pi≤1000∧n+pj≤1000:=by have:=HPM.out;omega
           rw[← hp1] at hxc
           rw[← hp2] at hyc
           have HS:Hid (∀ Wz,Below W.heap.size W Wz→Wz.cell? ⟨q1,0,none⟩=some (.int .i64 pi)∧Wz.cell? ⟨q1,1,none⟩=some (.int .i64 pj)∧Wz.cell? ⟨q1,2,none⟩=some (.int .i64 2)∧Wz.cell? ⟨q1,3,none⟩=some (.slice x1a n1' x1c)∧Wz.cell? ⟨g,p1,none⟩=some (.slice xa xl xc)∧Wz.cell? ⟨g,p2,none⟩=some (.slice ya yl yc)):=fun Wz h=>by
            obtain⟨z0,z1,z2,z3⟩:=four_cells (HF1.out.below h)
            exact⟨z0,z1,z2,z3,(h.cell (p:=⟨g,p1,none⟩) hgs).trans hxc,(h.cell (p:=⟨g,p2,none⟩) hgs).trans hyc⟩
           have hi1:(0:Int)≤(n:Int):=by omega
           have hi2:(n:Int)≤(oc:Int):=by omega
           have hi3:(n:Int)≤(n:Int)+(m:Int):=by omega
           have hi4:(0:Int)≤(p1:Int):=by omega
           have hi5:(p1:Int)<(n:Int)+(m:Int):=by have:=HPM.out;omega
           have hi6:(0:Int)≤(p2:Int):=by omega
           have hi7:(p2:Int)<(n:Int)+(m:Int):=by have:=HPM.out;omega
           have HP1:=Lib.hid hp1
           have HP2:=Lib.hid hp2
           have HPK:=Lib.hid hp1000
           clear hp1 hp2 hp1000 h1 h2 hx hy hT hSW hfx hget hxl hyl hxc hyc hgs htA htT htP s0 s00 hl0 hl0' f0 f1 f2 f3
           have hKA:=HS.out W (Below.refl _ _)
           have hbd:Below W.heap.size W W.drew:=(Below.refl _ _).drew
           have hKB:=HS.out _ hbd
           obtain⟨hw1,hw3⟩:=w64_add HP1.out HPK.out.1
           obtain⟨hw2,hw4⟩:=w64_add HP2.out HPK.out.2
           go_region_held3 (fun w'=>w'.cell? ⟨q1,0,none⟩=some (.int .i64 pi)∧w'.cell? ⟨q1,1,none⟩=some (.int .i64 pj)∧w'.cell? ⟨q1,2,none⟩=some (.int .i64 2)∧w'.cell? ⟨q1,3,none⟩=some (.slice x1a n1' x1c)∧w'.cell? ⟨g,p1,none⟩=some (.slice xa xl xc)∧w'.cell? ⟨g,p2,none⟩=some (.slice ya yl yc))
            (first | exact hKA | exact hKB | exact hKC | exact hKD | exact hKE)
            ((first
             | (go_at_call 18;(with_reducible refine (H2.out w10 hbC).mono ?_);rintro r w12 ⟨rfl,hb12⟩;have hbE:=below_next hbC hb12;have hKE:=HS.out _ hbE)
             | (go_at_call 18;(with_reducible refine (H1.out _ (by first | exact hbd | exact Below.refl _ _)).mono ?_);rintro r w10 ⟨rfl,hb10⟩;have hbC:=below_next hbd hb10;have hKC:=HS.out _ hbC;have hbA:Below w10.heap.size w10 (w10.alloc (.cells #[.slice xa xl xc,.slice ya yl yc] 54)):=(Below.refl _ _).alloc (Nat.le_refl _) _;have hKD:=HS.out _ (below_next hbC hbA))))
           go_wp2_with fail
           go_meet
           exact⟨by first | rfl | simp,hbE⟩
          ·have e2b:(vd==2)=false:=by simp[e2]
           go_quiet (fail)
           go_wp2_with fail
           go_meet
           exact⟨by first | rfl | simp,(Below.refl _ _).trans ⟨rfl,rfl,rfl,Nat.le_refl _,fun _ _=>rfl⟩⟩
         case rest =>
          obtain⟨hav,hb21⟩:=hcut
          subst hav
          obtain⟨w21,rfl⟩ : ∃ w21:World,w21=wc:=⟨_,rfl⟩
          have HBN:=Lib.hid (below_next HBW.out hb21)
          clear hb21 f0 f1 f2 f3
          go_wp2_with fail
          go_roundw
          case rel=>exact⟨t+1,by go_num,by omega,HBN.out⟩
          case measure=>simp[intOf];omega
        ·have hte:t=vp:=by omega
         subst hte
         have hlv:=HLIVE.out wr (below_next HB3.out (below_next HB37.out HBR.out))
         go_wp2_with fail
         refine hlv.mono ?_
         rintro r w22 ⟨rfl,hb22⟩
         clear hlv
         go_wp2_with fail
         go_ret
         exact⟨rfl,below_next (below_next HB3.out (below_next HB37.out HBR.out)) hb22⟩
     ·have e0:(er==0)=false:=by simp[her]
      have hkn:knownL l=false:=by unfold knownL;rw[← HER.out];exact e0
      have hex:ex=3:=by
       have h:=HVD.out
       unfold VerdQ at h
       rw[hkn,if_neg (by decide)] at h
       exact h.1
      subst hex
      obtain⟨x0,x1,x2,x3,x4⟩:=five_cells HKW0.out
      have hlv:=HLIVE.out w7 (below_next HB3.out HB37.out)
      clear hoF hoc
      go_wp2_with fail
      refine hlv.mono ?_
      rintro r w8 ⟨rfl,hb8⟩
      clear hlv
      go_wp2_with fail
      go_ret
      exact⟨rfl,below_next (below_next HB3.out HB37.out) hb8⟩
end Go.Proofs.YtmacepicoandkaaGreatDoor
