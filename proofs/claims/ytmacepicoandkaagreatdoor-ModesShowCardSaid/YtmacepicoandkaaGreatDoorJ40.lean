/- The verdict on some expressions over atoms: the walk. Pairs of modes, and a row of them: the plain mathematics, and what memory holds. A verdict, known or not; parts of a list of expressions. A verdict of the program beside the document's: the plain law. -/
import Derived.Test.YtmacepicoandkaaGreatDoorJ32
import Derived.Test.YtmacepicoandkaaGreatDoorJ35
import Derived.Test.YtmacepicoandkaaGreatDoorJ37
import Derived.Test.YtmacepicoandkaaGreatDoorJ39
set_option linter.unusedVariables false
set_option linter.unusedSimpArgs false
namespace Go.Proofs.YtmacepicoandkaaGreatDoor
open Go.RowKit Go.Shelf Tx
def satP (A B:List (List Nd)) (l:List Bool):Bool:=A.all (fun e=>Ux.valL l e)&&B.all (fun e=>!Ux.valL l e)
def satT (A B:List (List Nd)) (t:Nat) (l:List Bool):Bool:=satP (A.take t) (B.take (t - A.length)) l
theorem satT_zero (A B:List (List Nd)):satT A B 0=fun _=>true:=by funext l;simp[satT,satP]
theorem satT_held {A B:List (List Nd)} {t:Nat} {e:List Nd} (h:A[t]?=some e):satT A B (t+1)=fun l=>satT A B t l&&Ux.valL l e:=by
 funext l
 have ht:=(List.getElem?_eq_some_iff.1 h).1
 have e1:t+1 - A.length=0:=by omega
 have e2:t - A.length=0:=by omega
 unfold satT satP
 rw[e1,e2,take_at h]
 simp
theorem satT_fail {A B:List (List Nd)} {t:Nat} {e:List Nd} (ha:A.length≤t) (h:B[t - A.length]?=some e):satT A B (t+1)=fun l=>satT A B t l && !Ux.valL l e:=by
 funext l
 unfold satT satP
 rw[show t+1 - A.length=(t - A.length)+1 by omega,take_at h,List.take_of_length_le (by omega:A.length≤t+1),List.take_of_length_le ha]
 simp[Bool.and_assoc]
theorem satT_full (A B:List (List Nd)):satT A B (A.length+B.length)=satP A B:=by
 funext l
 unfold satT
 rw[List.take_of_length_le (by omega),show A.length+B.length - A.length=B.length by omega,List.take_of_length_le (Nat.le_refl _)]
def costE (v:Nat) (e:List Nd):Nat:=e.length+(e.length+e.length * (2 * 2 ^ v))+3 * 2 ^ v
def costL (v:Nat) (L:List (List Nd)):Nat:=(L.map (costE v)).sum
theorem costL_take (v:Nat) {L:List (List Nd)} {t:Nat} {e:List Nd} (h:L[t]?=some e):costL v (L.take (t+1))=costL v (L.take t)+costE v e:=by
 unfold costL;rw[take_at h];simp
theorem costL_le (v:Nat) (L:List (List Nd)) (t:Nat):costL v (L.take t)≤costL v L:=by
 have h:costL v L=costL v (L.take t)+costL v (L.drop t):=by
  unfold costL;rw[← List.sum_append,← List.map_append,List.take_append_drop]
 omega
def VerdIs (vars bud:Nat) (A B:List (List Nd)) (vd:Int) (v:Value) (W:World):Prop :=
 (vd=3∧v=.slice none 0 0∧bud≤2+costL vars (A++B)) ∨
 (vd=2∧∃ k,k<2 ^ vars∧satP A B (Dd.rowList vars k)=true∧(∀ j,j<k→satP A B (Dd.rowList vars j)=false)∧SlBools W v (Dd.rowList vars k)) ∨
 (vd=1∧v=.slice none 0 0∧∀ j,j<2 ^ vars→satP A B (Dd.rowList vars j)=false)
theorem den_row {W:World} {s:St} {f:Nat} {φ:List Bool→Bool} (hS:StoreAt W s) (hf:f<s.ns.length) (hd:∀ l:List Bool,l.length=s.vars→Dd.den s.ns (envOf l) f=φ l) (j:Nat) :
  Dd.den s.ns (Dd.rowEnv s.vars j) f=φ (Dd.rowList s.vars j):=by
 rw[← hd _ (by simp[Dd.rowList])]
 exact Dd.den_congr hS.wf (fun i hi=>by simp[envOf,Dd.rowList,List.getD,hi]) f hf
def WitPost (vars:Nat) (φ:List Bool→Bool) (w:World) (r:Ending) (w':World):Prop :=
 ∃ v b,r=.returned (.tuple #[v,.bool b])∧Below w.heap.size w w' ∧
  ((b=false∧v=.slice none 0 0∧∀ j,j<2 ^ vars→φ (Dd.rowList vars j)=false)∨(b=true∧∃ k,k<2 ^ vars∧φ (Dd.rowList vars k)=true∧(∀ j,j<k→φ (Dd.rowList vars j)=false)∧SlBools w' v (Dd.rowList vars k)))∧(∀ g,v.ownBlock=some g→w.heap.size≤g)
theorem wit_post {W:World} {s:St} {f:Nat} {φ:List Bool→Bool} (hS:StoreAt W s) (hf:f<s.ns.length) (hd:∀ l:List Bool,l.length=s.vars→Dd.den s.ns (envOf l) f=φ l) :
  Calls Tryz.prog 30 #[.pointer (some ⟨s.sb,0,none⟩),.int .i64 f] W (WitPost s.vars φ W):=by
 by_cases h0:f=0
 ·refine (Witness_none W s hS (f:Int) (Or.inr (by omega))).mono fun e w' ⟨he,hb⟩=>⟨_,_,he,hb,Or.inl ⟨rfl,rfl,fun j _=>?_⟩,fun g hg=>by cases hg⟩
  rw[← den_row hS hf hd,h0,Dd.den_zero]
 ·refine (Witness_any W s hS f hf h0).mono fun e w' ⟨g,k,he,ho,hW,hb⟩=>⟨_,_,he,hb,Or.inr ⟨rfl,k,hW.small,?_,fun j hj=>?_,SlBools.own' ho (by simp[Dd.rowList])⟩,fun g' hg=>(ho.lt g' hg).1⟩
  ·rw[← den_row hS hf hd];exact hW.fin hS.wf
  ·rw[← den_row hS hf hd];exact hW.none j hj
theorem joined_at {w w7 w8:World} {so xo:Option Addr} {n m:Nat} {T:TypeId} {A B:List (List Nd)} {us vs:List Value} {v':Value} (hA:RowV w so A us) (hB:RowV w xo B vs) (hn:n=A.length) (hm:m=B.length) (hb7:Below w.heap.size w w7) (hb8:Below w7.heap.size w7 w8)
  (h:(vs=[]∧v'=.slice so n n)∨w8.ownsRow w7.heap.size T 1 v' (n+m) (us++vs)) :
  ∃ ja jc,v'=.slice ja (n+m) jc∧n+m≤jc∧∀ (t:Nat) (e:List Nd),(A++B)[t]?=some e→∃ b o u,ja=some ⟨b,o,none⟩∧IsE w u e∧(b<w.heap.size∨w7.heap.size≤b)∧b<w8.heap.size∧w8.cell? ⟨b,o+t,none⟩=some u:=by
 have hel:∀ (t:Nat) (u:Value) (e:List Nd),(us++vs)[t]?=some u→(A++B)[t]?=some e→IsE w u e:=fun t u e hu he=>by
  rcases Nat.lt_or_ge t us.length with hi | hi
  ·rw[List.getElem?_append_left hi] at hu
   rw[List.getElem?_append_left (by have:=hA.len;omega)] at he
   exact hA.isE t u e hu he
  ·rw[List.getElem?_append_right hi] at hu
   rw[List.getElem?_append_right (by have:=hA.len;omega)] at he
   exact hB.isE (t - us.length) u e hu (by rw[hA.len];exact he)
 have hget:∀ (t:Nat) (e:List Nd),(A++B)[t]?=some e→∃ u,(us++vs)[t]?=some u:=fun t e he=>by
  have:=(List.getElem?_eq_some_iff.1 he).1
  exact⟨_,List.getElem?_eq_getElem (by rw[List.length_append,hA.len,hB.len,← List.length_append];exact this)⟩
 rcases h with ⟨rfl,rfl⟩ | h
 ·obtain rfl:B=[]:=List.eq_nil_of_length_eq_zero (by simpa using hB.len.symm)
  obtain rfl:m=0:=hm
  refine⟨so,n,rfl,Nat.le_refl _,fun t e he=>?_⟩
  obtain⟨u,hu⟩:=hget t e he
  have hue:=hel t u e hu he
  rw[List.append_nil] at hu he
  cases so with
  | none=>have:=hA.none rfl;subst this;simp at he
  | some ad =>
   have hc:=hA.cell ad rfl t u hu
   have hne:A≠[]:=fun q=>by rw[q] at he;simp at he
   obtain⟨b0,o0,e0⟩:=hA.lit hne
   cases e0
   rw[Addr.add_lit] at hc
   have hlt:=World.block_lt_of_cell? w _ hc
   exact⟨b0,o0,u,rfl,hue,Or.inl hlt,Nat.lt_of_lt_of_le hlt (Nat.le_trans hb7.size hb8.size),(hb8.cell (Nat.lt_of_lt_of_le hlt hb7.size)).trans ((hb7.cell hlt).trans hc)⟩
 ·have hl:(us++vs).length=n+m:=by have:=h.1;omega
  have h2:=h
  rcases h.2 with ⟨rfl,h0⟩ | ⟨g,cap,cur,rfl,hg,hgb,hcap,hr⟩
  ·refine⟨none,0,by rw[h0],by omega,fun t e he=>?_⟩
   obtain⟨u,hu⟩:=hget t e he
   have:=(List.getElem?_eq_some_iff.1 hu).1
   omega
  ·refine⟨_,cap,rfl,hcap,fun t e he=>?_⟩
   obtain⟨u,hu⟩:=hget t e he
   have ht:=(List.getElem?_eq_some_iff.1 hu).1
   have hc:=h2.cellAt t (by omega)
   refine⟨g,0,u,rfl,hel t u e hu he,Or.inr hg,(h2.lt g rfl).2,?_⟩
   rw[Nat.zero_add,hc];exact hu
theorem and_two (W:World) (s:St) (hS:StoreAt W s) (f g:Nat) (hf:f<s.ns.length) (hg:g<s.ns.length) :
  Calls Tryz.prog 29 #[.pointer (some ⟨s.sb,0,none⟩),.slice (some ⟨W.heap.size,0,none⟩) 2 2] (W.alloc (.cells #[.int .i64 f,.int .i64 g] 3)) (FnPost (2 * 2 ^ s.vars) (fun env=>Dd.den s.ns env f&&Dd.den s.ns env g) W s):=by
 have nb:=(Below.refl W.heap.size W).alloc (Nat.le_refl _) (.cells #[.int .i64 f,.int .i64 g] 3)
 have hfns:SlFns (W.alloc (.cells #[.int .i64 f,.int .i64 g] 3)) s (.slice (some ⟨W.heap.size,0,none⟩) 2 2) [f,g]:=by
  have hb:=heap_alloc_new W (.cells #[.int .i64 f,.int .i64 g] 3)
  refine Or.inr ⟨W.heap.size,0,2,rfl,by simp,by rw[World.size_alloc];omega,fun q=>by have:=hS.lt q;omega,fun i hi=>?_⟩
  match i with
  | 0=>(unfold World.cell?;rw[hb];rfl)
  | 1=>(unfold World.cell?;rw[hb];rfl)
  | i+2=>exact absurd hi (by simp)
 have h:=And_any _ s (hS.below nb) _ [f,g] hfns (fun x hx=>by simp at hx;rcases hx with rfl | rfl;exact hf;exact hg)
 simp only[List.length_cons,List.length_nil,List.all_cons,List.all_nil,Bool.and_true] at h
 exact h.mono fun e w' q=>q.from nb
theorem DenI.both {s s':St} {f g r:Nat} {φ ψ:List Bool→Bool} (h1:DenI s (f:Int) φ) (h2:DenI s (g:Int) ψ) (hv:s'.vars=s.vars) (hr:r<s'.ns.length) (h:∀ env,Dd.den s'.ns env r=(Dd.den s.ns env f&&Dd.den s.ns env g)):DenI s' (r:Int) (fun l=>φ l&&ψ l):=by
 obtain⟨f',e1,_,d1⟩:=h1
 obtain⟨g',e2,_,d2⟩:=h2
 obtain rfl:f=f':=by omega
 obtain rfl:g=g':=by omega
 exact⟨r,rfl,hr,fun l hl=>by rw[h,d1 l (by rw[hl,hv]),d2 l (by rw[hl,hv])]⟩
theorem DenI.not {s s':St} {g r:Nat} {ψ:List Bool→Bool} (h2:DenI s (g:Int) ψ) (hv:s'.vars=s.vars) (hr:r<s'.ns.length) (h:∀ env,Dd.den s'.ns env r = !Dd.den s.ns env g):DenI s' (r:Int) (fun l=>!ψ l):=by
 obtain⟨g',e2,_,d2⟩:=h2
 obtain rfl:g=g':=by omega
 exact⟨r,rfl,hr,fun l hl=>by rw[h,d2 l (by rw[hl,hv])]⟩
theorem DenI.lt {s:St} {f:Nat} {φ:List Bool→Bool} (h:DenI s (f:Int) φ):f<s.ns.length:=by
 obtain⟨f',e1,h2,_⟩:=h
 omega
def VerdPost (vars bud:Nat) (A B:List (List Nd)) (w:World) (r:Ending) (w':World):Prop :=
 ∃ vd v,r=.returned (.tuple #[.int .i64 vd,v])∧Below w.heap.size w w'∧VerdIs vars bud A B vd v w'∧(∀ g,v.ownBlock=some g→w.heap.size≤g)
set_option maxRecDepth 100000 in
set_option maxHeartbeats 4000000 in
theorem verdict_any (A B : List (List Nd)) (va vb : Value) (kp fp bp vars bud : Nat) (fa : Option Addr) (fc : Nat) (w : World) (G : Gl w) (hvars : vars ≤ 30) (hb2 : 2 ≤ bud) (hb1 : bud ≤ 10000)
    (hk : w.cell? ⟨kp, 0, none⟩ = some (.bool true)) (hf : w.cell? ⟨fp, 0, none⟩ = some (.slice fa vars fc)) (hbd : w.cell? ⟨bp, 0, none⟩ = some (.int .i64 bud))
    (hA : Sg 1 IsL w va A) (hB : Sg 1 IsL w vb B) (hlen : A.length + B.length ≤ 1000) (hE : ∀ e ∈ A ++ B, Ux.mayA e vars = true ∧ e.length ≤ 5000 ∧ smallS e) :
    Calls Tryz.prog 24 #[va, vb, .pointer (some ⟨kp, 0, none⟩), .pointer (some ⟨fp, 0, none⟩), .pointer (some ⟨bp, 0, none⟩)] w (VerdPost vars bud A B w) := by
  have HA := Lib.hid hA
  have HB := Lib.hid hB
  obtain ⟨so, c1, rfl, hc1, -⟩ := hA.form keepsL
  obtain ⟨xo, c2, rfl, hc2, -⟩ := hB.form keepsL
  obtain ⟨-, us, hUS⟩ := rowV hA
  obtain ⟨-, vs, hVS⟩ := rowV hB
  obtain ⟨n, hn⟩ : ∃ n, n = A.length := ⟨_, rfl⟩
  obtain ⟨m, hm⟩ : ∃ m, m = B.length := ⟨_, rfl⟩
  rw [← hn] at HA hlen hc1 ⊢
  rw [← hm] at HB hlen hc2 ⊢
  have HN := Lib.hid hn
  have HM := Lib.hid hm
  have HE := Lib.hid hE
  have HU := Lib.hid hUS
  have HVS := Lib.hid hVS
  have HG := Lib.hid G
  clear hA hB hn hm hE hUS hVS G
  go_enter Tryz.func24, Tryz.ntmps24
  go_wp2_with fail
  refine (New_ok w vars bud hvars hb2 hb1).mono ?_
  rintro r w6 ⟨s, rfl, hS, hvr, hbu, hns, hb6, hbl⟩
  have HVR := Lib.hid hvr
  have HBU := Lib.hid hbu
  have HNS := Lib.hid hns
  have HS := Lib.hid hS
  have HBL := Lib.hid hbl
  have HB6 := Lib.hid hb6
  clear hvr hbu hns hS hbl hb6 hk hf hbd
  go_wp2_with fail
  refine (ConstS_any w6 ⟨s.sb, 0, none⟩ true).mono ?_
  rintro r w7 ⟨rfl, hw7⟩
  obtain rfl := hw7
  have hU7 := HU.out.below HB6.out
  have hV7 := HVS.out.below HB6.out
  go_wp2_with (at_builtin; refine wpList_join rowE rfl _ _ rfl so xo n m c2 us vs rfl rfl (by rw [hU7.len]; exact HN.out.symm) (by rw [hV7.len]; exact HM.out.symm) (by omega) (fun e => by rw [HN.out, hU7.none e]; rfl) hU7.cell (fun j u hj => ?c1) hV7.one ?c2)
  case c1 =>
    cases xo with
    | none => have h1 := hV7.none rfl; have h2 : vs.length = 0 := by rw [hV7.len, h1]; rfl
              have h3 := (List.getElem?_eq_some_iff.1 hj).1
              omega
    | some ad => exact ⟨ad, rfl, hV7.cell ad rfl j u hj⟩
  case c2 =>
    intro v8 w8 hb8 hj
    obtain ⟨ja, jc, rfl, hjc, hjx⟩ := joined_at HU.out HVS.out HN.out HM.out HB6.out hb8 hj
    have HJ := Lib.hid hjx
    have HB8 := Lib.hid hb8
    clear hj hjx hU7 hV7
    have hI0 : RunI w.heap.size w8 s w8 s := ⟨HS.out.below hb8, More.refl _ _, Below.refl _ _, HBL.out, Fr.refl _ _⟩
    have hnb : ∀ b, (b < w.heap.size ∨ w7.heap.size ≤ b) → ¬ s.bl b := fun b h q => by
      have h1 := HBL.out b q
      have h2 := HS.out.lt q
      omega
    have HNB := Lib.hid hnb
    clear hb8 hnb
    go_wp2_with fail
    go_loopw [11, 38] (fun fv iv wr => ∃ (t f : Nat) (s2 : St), iv = .int .i64 t ∧ fv = .int .i64 f ∧ t ≤ n + m ∧ RunI w.heap.size w8 s wr s2 ∧ DenI s2 (f : Int) (satT A B t) ∧ s2.ns.length ≤ 2 + costL vars ((A ++ B).take t)) (fun _ iv _ => n + m - (intOf iv).toNat)
    case atStart =>
      refine ⟨0, 1, s, rfl, rfl, Nat.zero_le _, hI0, ⟨1, rfl, by rw [HNS.out]; simp, fun l _ => ?_⟩, by rw [HNS.out]; exact Nat.le_add_right _ _⟩
      rw [satT_zero, Dd.den_one]
    case round =>
      obtain ⟨t, f, s2, rfl, rfl, ht, hI, hden, hcost⟩ := hrel
      have HI := Lib.hid hI
      have HD := Lib.hid hden
      have HC := Lib.hid hcost
      have HV2 : Hid (s2.vars = vars) := by show _ = _; rw [hI.more.vars]; exact HVR.out
      have HBU2 : Hid (s2.budget = bud) := by show _ = _; rw [hI.more.budget]; exact HBU.out
      have HSB2 : Hid (s2.sb = s.sb) := hI.more.sb
      have HWB : Hid (Below w.heap.size w wr) := by
        show Below _ _ _
        exact (HB6.out.trans (HB8.out.mono HB6.out.size)).trans hI.below
      clear hI0 hI hden hcost
      by_cases hlt : t < n + m
      · obtain ⟨e, he⟩ : ∃ e, (A ++ B)[t]? = some e := ⟨_, List.getElem?_eq_getElem (by rw [List.length_append]; have := HN.out; have := HM.out; omega)⟩
        obtain ⟨b, o, u, rfl, hue, hbb, hblt, hcell⟩ := HJ.out t e he
        have hc : wr.cell? ⟨b, o + t, none⟩ = some u := (HI.out.fr.cell (p := ⟨b, o + t, none⟩) hblt (HNB.out b hbb)).trans hcell
        obtain ⟨e1, e2, e3⟩ := HE.out e (List.mem_of_getElem? he)
        have hmake := Make_any e u s2 w.heap.size wr e2 e3 HWB.out.size (fun W h => Sl.below hue (HWB.out.trans h)) (fun W h => HG.out.below (HWB.out.trans h)) HI.out.store HI.out.bl
        rw [HSB2.out] at hmake
        obtain ⟨ea, ec, rfl, -, -⟩ := hue.form
        generalize hel : e.length = el at hmake hc
        have HEL := Lib.hid hel
        have HEE := Lib.hid he
        have HMA := Lib.hid e1
        have htn : (t : Int) < ((n : Int) + (m : Int)) := by omega
        have ht0 : (0 : Int) ≤ (t : Int) := by omega
        have htn2 : (t : Int) < ((n + m : Nat) : Int) := by omega
        clear he hue hbb hblt hcell e1 e2 e3 hel
        go_wp2_with fail
        refine hmake.mono ?_
        rintro r w9 ⟨nv, er, s3, rfl, hI3, hlen3, hor⟩
        have hR3 := HI.out.trans hI3
        have HR3 := Lib.hid hR3
        have HB0 : Hid (w.heap.size ≤ w8.heap.size) := Nat.le_trans HB6.out.size HB8.out.size
        have HV3 : Hid (s3.vars = vars) := by show _ = _; rw [hI3.more.vars]; exact HV2.out
        have HSB3 : Hid (s3.sb = s.sb) := by show _ = _; rw [hI3.more.sb]; exact HSB2.out
        have hd0 := HD.out.more hI3.more HI.out.store hI3.store
        have HDF := Lib.hid hd0
        rw [HV2.out, HMA.out, HBU2.out] at hor
        rw [HV2.out] at hlen3
        have hl3 : s3.ns.length ≤ 2 + costL vars ((A ++ B).take t) + (e.length + (e.length + e.length * (2 * 2 ^ vars))) := by have := HC.out; omega
        have HL3 : Hid (s3.ns.length + 3 * 2 ^ vars ≤ 2 + (costL vars ((A ++ B).take t) + costE vars e)) := by show s3.ns.length + _ ≤ _; unfold costE; omega
        clear hmake hlen3 hR3 hd0 hI3 hl3
        rcases hor with ⟨h, _⟩ | ⟨_, rfl, rfl, hfull⟩ | ⟨_, rfl, hdg⟩
        · cases h
        · have HF : Hid (bud ≤ 2 + costL vars (A ++ B)) := by
            have h1 := HL3.out
            have h2 := costL_le vars (A ++ B) (t + 1)
            rw [costL_take vars HEE.out] at h2
            show bud ≤ _
            omega
          clear hfull
          go_wp2_with fail
          go_ret2
          exact ⟨3, _, rfl, (HB6.out.trans (HB8.out.mono HB6.out.size)).trans HR3.out.below, Or.inl ⟨rfl, rfl, HF.out⟩, fun g hg => by cases hg⟩
        · have hdg0 := hdg
          obtain ⟨g, rfl, -, -⟩ := hdg0
          have HDG := Lib.hid hdg
          clear hdg
          by_cases hheld : t < n
          · have hA1 : A[t]? = some e := by have := HEE.out; rwa [List.getElem?_append_left (by rw [← HN.out]; exact hheld)] at this
            have HSAT := Lib.hid (satT_held (A := A) (B := B) hA1)
            have hin : (t : Int) < (n : Int) := by omega
            have hand := and_two w9 s3 HR3.out.store f g HDF.out.lt HDG.out.lt
            rw [HSB3.out] at hand
            clear hA1
            go_wp2_with fail
            refine hand.mono ?_
            rintro r w10 ⟨r4, er4, s5, rfl, hS4, hM4, hF4, hr4, hc4, hor4⟩
            have hR4 := RunI.next HR3.out hS4 hM4 hF4 HB0.out
            have HR4 := Lib.hid hR4
            clear hS4 hM4 hF4 hand
            rcases hor4 with ⟨rfl, hsem⟩ | ⟨rfl, rfl, hfull⟩
            · have hd4 := (HDF.out).both (HDG.out) (by rw [HR4.out.more.vars, HR3.out.more.vars]) hr4 hsem
              have HD4 : Hid (DenI s5 (r4 : Int) (satT A B (t + 1))) := by show DenI _ _ _; rw [HSAT.out]; exact hd4
              have HC4 : Hid (s5.ns.length ≤ 2 + costL vars ((A ++ B).take (t + 1))) := by
                show s5.ns.length ≤ _
                rw [costL_take vars HEE.out]
                have h1 := HL3.out
                rw [HV3.out] at hc4
                omega
              clear hd4 hsem hc4 hr4
              go_wp2_with fail
              go_roundw
              case rel => exact ⟨t + 1, r4, s5, by go_num, rfl, by omega, HR4.out, HD4.out, HC4.out⟩
              case measure => simp [intOf]; omega
            · have HF : Hid (bud ≤ 2 + costL vars (A ++ B)) := by
                have h1 := HL3.out
                have h2 := costL_le vars (A ++ B) (t + 1)
                rw [costL_take vars HEE.out] at h2
                rw [HV3.out] at hc4
                have h3 : s5.ns.length = bud := by rw [hfull, HR3.out.more.budget]; exact HBU.out
                show bud ≤ _
                omega
              clear hfull hc4 hr4
              go_wp2_with fail
              go_ret2
              exact ⟨3, _, rfl, (HB6.out.trans (HB8.out.mono HB6.out.size)).trans HR4.out.below, Or.inl ⟨rfl, rfl, HF.out⟩, fun g hg => by cases hg⟩
          · have hB1 : B[t - A.length]? = some e := by have := HEE.out; rwa [List.getElem?_append_right (by rw [← HN.out]; omega)] at this
            have HSAT := Lib.hid (satT_fail (A := A) (B := B) (by rw [← HN.out]; omega) hB1)
            have hin : ¬ (t : Int) < (n : Int) := by omega
            have hin2 : (n : Int) ≤ (t : Int) := by omega
            have hnot := Not_any w9 s3 HR3.out.store g HDG.out.lt
            rw [HSB3.out] at hnot
            clear hB1 hheld
            go_wp2_with fail
            refine hnot.mono ?_
            rintro r w10 ⟨r3, er3, s4, rfl, hS3, hM3, hF3, hr3, hc3, hor3⟩
            have hR7 := RunI.next HR3.out hS3 hM3 hF3 HB0.out
            have HR7 := Lib.hid hR7
            have HV7 : Hid (s4.vars = vars) := by show _ = _; rw [hM3.vars]; exact HV3.out
            have HSB7 : Hid (s4.sb = s.sb) := by show _ = _; rw [hM3.sb]; exact HSB3.out
            have HDF7 := Lib.hid (HDF.out.more hM3 HR3.out.store hS3)
            have HVV := Lib.hid hM3.vars
            rw [HV3.out] at hc3
            have HL7 : Hid (s4.ns.length + 2 * 2 ^ vars ≤ 2 + (costL vars ((A ++ B).take t) + costE vars e)) := by show s4.ns.length + _ ≤ _; have := HL3.out; omega
            clear hnot hS3 hM3 hF3 hR7 hc3
            rcases hor3 with ⟨rfl, hsem3⟩ | ⟨rfl, rfl, hfull⟩
            · have hdn := HDG.out.not HVV.out hr3 hsem3
              have HDN := Lib.hid hdn
              have hand := and_two w10 s4 HR7.out.store f r3 HDF7.out.lt HDN.out.lt
              rw [HSB7.out] at hand
              clear hdn hsem3 hr3
              go_wp2_with fail
              refine hand.mono ?_
              rintro r w11 ⟨r4, er4, s5, rfl, hS4, hM4, hF4, hr4, hc4, hor4⟩
              have hR4 := RunI.next HR7.out hS4 hM4 hF4 HB0.out
              have HR4 := Lib.hid hR4
              clear hS4 hM4 hF4 hand
              rcases hor4 with ⟨rfl, hsem⟩ | ⟨rfl, rfl, hfull⟩
              · have hd4 := (HDF7.out).both (HDN.out) (by rw [HR4.out.more.vars, HR7.out.more.vars]) hr4 hsem
                have HD4 : Hid (DenI s5 (r4 : Int) (satT A B (t + 1))) := by show DenI _ _ _; rw [HSAT.out]; exact hd4
                have HC4 : Hid (s5.ns.length ≤ 2 + costL vars ((A ++ B).take (t + 1))) := by
                  show s5.ns.length ≤ _
                  rw [costL_take vars HEE.out]
                  have h1 := HL7.out
                  rw [HV7.out] at hc4
                  omega
                clear hd4 hsem hc4 hr4
                go_wp2_with fail
                go_roundw
                case rel => exact ⟨t + 1, r4, s5, by go_num, rfl, by omega, HR4.out, HD4.out, HC4.out⟩
                case measure => simp [intOf]; omega
              · have HF : Hid (bud ≤ 2 + costL vars (A ++ B)) := by
                  have h1 := HL7.out
                  have h2 := costL_le vars (A ++ B) (t + 1)
                  rw [costL_take vars HEE.out] at h2
                  rw [HV7.out] at hc4
                  have h3 : s5.ns.length = bud := by rw [hfull, HR7.out.more.budget]; exact HBU.out
                  show bud ≤ _
                  omega
                clear hfull hc4 hr4
                go_wp2_with fail
                go_ret2
                exact ⟨3, _, rfl, (HB6.out.trans (HB8.out.mono HB6.out.size)).trans HR4.out.below, Or.inl ⟨rfl, rfl, HF.out⟩, fun g hg => by cases hg⟩
            · have HF : Hid (bud ≤ 2 + costL vars (A ++ B)) := by
                have h1 := HL7.out
                have h2 := costL_le vars (A ++ B) (t + 1)
                rw [costL_take vars HEE.out] at h2
                have h3 : s4.ns.length = bud := by rw [hfull, HR3.out.more.budget]; exact HBU.out
                show bud ≤ _
                omega
              clear hfull hr3
              go_wp2_with fail
              go_ret2
              exact ⟨3, _, rfl, (HB6.out.trans (HB8.out.mono HB6.out.size)).trans HR7.out.below, Or.inl ⟨rfl, rfl, HF.out⟩, fun g hg => by cases hg⟩
      · have hte : t = n + m := by omega
        subst hte
        have hwit := wit_post HI.out.store HD.out.lt (fun l hl => by
          obtain ⟨f', e1, _, d⟩ := HD.out
          obtain rfl : f = f' := by omega
          exact d l hl)
        rw [HSB2.out, HV2.out, show n + m = A.length + B.length by rw [← HN.out, ← HM.out], satT_full] at hwit
        go_wp2_with fail
        refine hwit.mono ?_
        rintro r w9 ⟨v, bv, rfl, hb9, hor, hnew⟩
        have HNW : Hid (∀ g, v.ownBlock = some g → w.heap.size ≤ g) := fun g hg => Nat.le_trans HWB.out.size (hnew g hg)
        have HB9 := Lib.hid (below_next HWB.out hb9)
        clear hwit hb9 hnew
        rcases hor with ⟨rfl, rfl, hno⟩ | ⟨rfl, hyes⟩
        · have HNO := Lib.hid hno
          clear hno
          go_wp2_with fail
          go_ret2
          exact ⟨1, _, rfl, HB9.out, Or.inr (Or.inr ⟨rfl, rfl, HNO.out⟩), fun g hg => by cases hg⟩
        · have HY := Lib.hid hyes
          clear hyes
          go_wp2_with fail
          go_ret2
          exact ⟨2, _, rfl, HB9.out, Or.inr (Or.inl ⟨rfl, HY.out⟩), HNW.out⟩
end Go.Proofs.YtmacepicoandkaaGreatDoor
namespace Go.Proofs.YtmacepicoandkaaGreatDoor
open Go.RowKit Go.Shelf Tx
def prsAt (m i j:Nat):List (Nat×Nat):=(List.range i).flatMap (fun a=>(List.range' (a+1) (m - (a+1))).map fun b=>(a,b))++(List.range' (i+1) (j - (i+1))).map fun b=>(i,b)
def prs (m:Nat):List (Nat×Nat):=(List.range m).flatMap fun a=>(List.range' (a+1) (m - (a+1))).map fun b=>(a,b)
theorem prsAt_zero (m:Nat):prsAt m 0 1=[]:=by simp[prsAt]
theorem prsAt_snoc {m i j:Nat} (h:i+1≤j):prsAt m i (j+1)=prsAt m i j++[(i,j)]:=by
 unfold prsAt
 rw[show j+1 - (i+1)=(j - (i+1))+1 by omega,List.range'_concat,List.map_append,List.append_assoc]
 simp;omega
theorem prsAt_next {m i:Nat} : prsAt m i m=prsAt m (i+1) (i+2):=by
 unfold prsAt
 rw[List.range_succ,List.flatMap_append]
 simp
theorem prsAt_full {m:Nat} : prsAt m m (m+1)=prs m:=by simp[prsAt,prs]
def VerdQ (known:Bool) (vars bud:Nat) (A B:List (List Nd)) (vd:Int) (v:Value) (W:World):Prop :=
 if known=true then VerdIs vars bud A B vd v W else vd=3∧v=.slice none 0 0
theorem VerdIs.form {vars bud:Nat} {A B:List (List Nd)} {vd:Int} {v:Value} {W:World} (h:VerdIs vars bud A B vd v W):∃ a n c,v=.slice a n c∧∀ ad,a=some ad→ad.block<W.heap.size∧ad.spot=none:=by
 rcases h with ⟨_,rfl,_⟩ | ⟨_,k,_,_,_,hb⟩ | ⟨_,rfl,_⟩
 ·exact⟨none,0,0,rfl,fun ad h=>by cases h⟩
 ·rcases hb with ⟨rfl,_⟩ | ⟨b,o,c,rfl,hl,_⟩
  ·exact⟨none,0,0,rfl,fun ad h=>by cases h⟩
  ·exact⟨_,_,c,rfl,fun ad h=>by cases h;exact⟨hl,rfl⟩⟩
 ·exact⟨none,0,0,rfl,fun ad h=>by cases h⟩
theorem VerdQ.form {known:Bool} {vars bud:Nat} {A B:List (List Nd)} {vd:Int} {v:Value} {W:World} (h:VerdQ known vars bud A B vd v W):∃ a n c,v=.slice a n c∧∀ ad,a=some ad→ad.block<W.heap.size∧ad.spot=none:=by
 unfold VerdQ at h
 split at h
 ·exact h.form
 ·exact⟨none,0,0,h.2,fun ad h=>by cases h⟩
theorem SlBools.kept {W W':World} {v:Value} {l:List Bool} (h:SlBools W v l) (hs:W.heap.size≤W'.heap.size) (hk:∀ a n c,v=.slice (some a) n c→W'.heap[a.block]?=W.heap[a.block]?):SlBools W' v l:=by
 rcases h with h | ⟨b,o,c,rfl,hl,hc⟩
 ·exact Or.inl h
 ·exact Or.inr ⟨b,o,c,rfl,by omega,fun i hi=>(World.cell?_of_block (a:=⟨b,o+i,none⟩) (hk ⟨b,o,none⟩ _ _ rfl)).trans (hc i hi)⟩
theorem VerdIs.kept {vars bud:Nat} {A B:List (List Nd)} {vd:Int} {v:Value} {W W':World} (h:VerdIs vars bud A B vd v W) (hs:W.heap.size≤W'.heap.size) (hk:∀ a n c,v=.slice (some a) n c→W'.heap[a.block]?=W.heap[a.block]?):VerdIs vars bud A B vd v W':=by
 rcases h with h | ⟨h1,k,h2,h3,h4,hb⟩ | h
 ·exact Or.inl h
 ·exact Or.inr (Or.inl ⟨h1,k,h2,h3,h4,hb.kept hs hk⟩)
 ·exact Or.inr (Or.inr h)
theorem VerdQ.kept {known:Bool} {vars bud:Nat} {A B:List (List Nd)} {vd:Int} {v:Value} {W W':World} (h:VerdQ known vars bud A B vd v W) (hs:W.heap.size≤W'.heap.size) (hk:∀ a n c,v=.slice (some a) n c→W'.heap[a.block]?=W.heap[a.block]?):VerdQ known vars bud A B vd v W':=by
 unfold VerdQ at h ⊢
 split at h
 ·rename_i hh;rw[if_pos hh];exact h.kept hs hk
 ·rename_i hh;rw[if_neg hh];exact h
def PRow (T:Nat) (Q:Nat×Nat→Int→Value→World→Prop) (base:Nat) (W:World) (v:Value) (L:List (Nat×Nat)):Prop :=
 ∃ cs:List (List Value),W.ownsRow base T 4 v L.length (cs.flatMap id)∧cs.length=L.length∧(∀ c∈cs,c.length=4) ∧
  ∀ (i:Nat) (c:List Value) (p:Nat×Nat),cs[i]?=some c→L[i]?=some p→∃ vd a n k,c=[.int .i64 p.1,.int .i64 p.2,.int .i64 vd,.slice a n k]∧Q p vd (.slice a n k) W∧(∀ ad,a=some ad→base≤ad.block∧ad.block<W.heap.size∧v.ownBlock≠some ad.block)
def QKeep (Q:Nat×Nat→Int→Value→World→Prop):Prop :=
 ∀ p vd v W W',Q p vd v W→W.heap.size≤W'.heap.size→(∀ a n c,v=.slice (some a) n c→W'.heap[a.block]?=W.heap[a.block]?)→Q p vd v W'
section
variable {T : Nat} {Q : Nat × Nat → Int → Value → World → Prop} {base : Nat} {W W' : World} {v : Value} {L : List (Nat × Nat)}
theorem PRow.nil_:PRow T Q base W (.slice none 0 0) []:=⟨[],World.ownsRow_nil _ _ _ _,rfl,fun c h=>by simp at h,fun i c p h=>by simp at h⟩
theorem PRow.form (h:PRow T Q base W v L):v=.slice none 0 0∨∃ g c,v=.slice (some ⟨g,0,none⟩) L.length c∧base≤g∧g<W.heap.size:=by
 obtain⟨cs,h1,_⟩:=h
 have h0:=h1
 rcases h1.2 with ⟨rfl,_⟩ | ⟨g,cap,cur,rfl,hg,_⟩
 ·exact Or.inl rfl
 ·exact Or.inr ⟨g,cap,rfl,h0.lt g rfl⟩
theorem PRow.kept (hQ:QKeep Q) (h:PRow T Q base W v L) (hs:W.heap.size≤W'.heap.size) (hk:∀ k,base≤k→k<W.heap.size→W'.heap[k]?=W.heap[k]?):PRow T Q base W' v L:=by
 obtain⟨cs,h1,h2,h3,h4⟩:=h
 refine⟨cs,row_kept h1 (fun g hg _ hl=>hk g hg hl),h2,h3,fun i c p hc hp=>?_⟩
 obtain⟨vd,a,n,k,e,hq,ha⟩:=h4 i c p hc hp
 exact⟨vd,a,n,k,e,hQ _ _ _ _ _ hq hs (fun a' n' c' e'=>by cases e';exact hk _ (ha _ rfl).1 (ha _ rfl).2.1),fun ad had=>⟨(ha ad had).1,by have:=(ha ad had).2.1;omega,(ha ad had).2.2⟩⟩
theorem PRow.push (hQ:QKeep Q) {p:Nat×Nat} {vd:Int} {a:Option Addr} {n k g cap:Nat} {cs:List (List Value)} (h2:cs.length=L.length) (h3:∀ c∈cs,c.length=4)
  (h4:∀ (i:Nat) (c:List Value) (p:Nat×Nat),cs[i]?=some c→L[i]?=some p→∃ vd a n k,c=[.int .i64 p.1,.int .i64 p.2,.int .i64 vd,.slice a n k]∧Q p vd (.slice a n k) W∧(∀ ad,a=some ad→base≤ad.block∧ad.block<W.heap.size∧v.ownBlock≠some ad.block))
  (hq:Q p vd (.slice a n k) W) (ha:∀ ad,a=some ad→base≤ad.block∧ad.block<W.heap.size∧v.ownBlock≠some ad.block)
  (hown:W'.ownsRow base T 4 (.slice (some ⟨g,0,none⟩) (L.length+1) cap) (L.length+1) (cs.flatMap id++[.int .i64 p.1,.int .i64 p.2,.int .i64 vd,.slice a n k])) (hgrow:W.grownBy W' v.ownBlock) (hat:v.ownBlock=some g∨W.heap.size≤g) :
  PRow T Q base W' (.slice (some ⟨g,0,none⟩) (L.length+1) cap) (L++[p]):=by
 have hkeep:∀ (p:Nat×Nat) (vd:Int) (a:Option Addr) (n k:Nat),Q p vd (.slice a n k) W→(∀ ad,a=some ad→base≤ad.block∧ad.block<W.heap.size∧v.ownBlock≠some ad.block) →
   Q p vd (.slice a n k) W'∧(∀ ad,a=some ad→base≤ad.block∧ad.block<W'.heap.size∧(Value.slice (some ⟨g,0,none⟩) (L.length+1) cap).ownBlock≠some ad.block):=fun p vd a n k hq ha =>
  ⟨hQ _ _ _ _ _ hq hgrow.size (fun a' n' c' e'=>by cases e';exact hgrow.block _ (ha _ rfl).2.1 (fun e=>(ha _ rfl).2.2 e.symm)),fun ad had=>⟨(ha ad had).1,Nat.lt_of_lt_of_le (ha ad had).2.1 hgrow.size,fun e=>by
   rw[own_some] at e
   cases e
   rcases hat with hat | hat
   ·exact (ha ad had).2.2 hat
   ·have:=(ha ad had).2.1;omega⟩⟩
 refine⟨cs++[[.int .i64 p.1,.int .i64 p.2,.int .i64 vd,.slice a n k]],by simpa using hown,by simp[h2],fun c hc=>?_,fun i c q hc hq'=>?_⟩
 ·rcases List.mem_append.1 hc with hc | hc
  ·exact h3 c hc
  ·rw[List.mem_singleton.1 hc];rfl
 ·rcases Nat.lt_or_ge i cs.length with hi | hi
  ·rw[List.getElem?_append_left hi] at hc
   rw[List.getElem?_append_left (by omega)] at hq'
   obtain⟨vd',a',n',k',e,hq1,ha1⟩:=h4 i c q hc hq'
   obtain⟨q1,q2⟩:=hkeep q vd' a' n' k' hq1 ha1
   exact⟨vd',a',n',k',e,q1,q2⟩
  ·have hi2:=(List.getElem?_eq_some_iff.1 hc).1
   simp only[List.length_append,List.length_singleton] at hi2
   obtain rfl:i=cs.length:=by omega
   rw[List.getElem?_append_right (Nat.le_refl _)] at hc
   rw[h2,List.getElem?_append_right (Nat.le_refl _)] at hq'
   simp at hc hq'
   subst hc hq'
   obtain⟨q1,q2⟩:=hkeep p vd a n k hq ha
   exact⟨vd,a,n,k,rfl,q1,q2⟩
end
theorem VerdQ.keeps (known:Bool) (vars bud:Nat) (F:Nat×Nat→List (List Nd)):QKeep fun p vd v W=>VerdQ known vars bud (F p) [] vd v W:=fun _ _ _ _ _ h hs hk=>h.kept hs hk
end Go.Proofs.YtmacepicoandkaaGreatDoor
namespace Go.Proofs.YtmacepicoandkaaGreatDoor
open Go.RowKit Go.Shelf Tx
def VerdQPost (kn:Bool) (vars bud:Nat) (A B:List (List Nd)) (w:World) (r:Ending) (w':World):Prop :=
 ∃ vd v,r=.returned (.tuple #[.int .i64 vd,v])∧Below w.heap.size w w'∧VerdQ kn vars bud A B vd v w'∧(∀ g,v.ownBlock=some g→w.heap.size≤g)
set_option maxRecDepth 100000 in
theorem verdict_no (va vb:Value) (kp fp bp:Nat) (w:World) (hk:w.cell? ⟨kp,0,none⟩=some (.bool false)) :
  Calls Tryz.prog 24 #[va,vb,.pointer (some ⟨kp,0,none⟩),.pointer (some ⟨fp,0,none⟩),.pointer (some ⟨bp,0,none⟩)] w fun r w'=>r=.returned (.tuple #[.int .i64 3,.slice none 0 0])∧w'=w:=by
 go_enter Tryz.func24,Tryz.ntmps24
 go_wp2_with fail
 go_ret2
 exact⟨rfl,rfl⟩
theorem verdQ_any (kn:Bool) (A B:List (List Nd)) (va vb:Value) (kp fp bp vars bud:Nat) (fa:Option Addr) (fc:Nat) (w:World) (G:Gl w) (hb2:2≤bud) (hb1:bud≤10000)
  (hk:w.cell? ⟨kp,0,none⟩=some (.bool kn)) (hf:w.cell? ⟨fp,0,none⟩=some (.slice fa vars fc)) (hbd:w.cell? ⟨bp,0,none⟩=some (.int .i64 bud))
  (hA:Sg 1 IsL w va A) (hB:Sg 1 IsL w vb B) (hlen:A.length+B.length≤1000) (hE:kn=true→vars≤30∧∀ e∈A++B,Ux.mayA e vars=true∧e.length≤5000∧smallS e) :
  Calls Tryz.prog 24 #[va,vb,.pointer (some ⟨kp,0,none⟩),.pointer (some ⟨fp,0,none⟩),.pointer (some ⟨bp,0,none⟩)] w (VerdQPost kn vars bud A B w):=by
 cases kn with
 | true=>exact (verdict_any A B va vb kp fp bp vars bud fa fc w G (hE rfl).1 hb2 hb1 hk hf hbd hA hB hlen (hE rfl).2).mono fun r w' ⟨vd,v,h1,h2,h3,h4⟩=>⟨vd,v,h1,h2,by unfold VerdQ;rw[if_pos rfl];exact h3,h4⟩
 | false=>exact (verdict_no va vb kp fp bp w hk).mono fun r w' ⟨h1,h2⟩=>⟨3,_,h1,by rw[h2];exact Below.refl _ _,by unfold VerdQ;rw[if_neg (by decide)];exact⟨rfl,rfl⟩,fun g hg=>by cases hg⟩
theorem sg_take {w:World} {oa:Option Addr} {N oc n c:Nat} {L:List (List Nd)} (h:Sg 1 IsL w (.slice oa N oc) L) (hN:N=L.length) (hn:n≤N) (hc:n≤c):Sg 1 IsL w (.slice oa n c) (L.take n):=by
 obtain⟨cs,h1,h2,h3⟩:=h
 refine⟨cs.take n,?_,by simp[h2],fun i x e hx he=>?_⟩
 ·rcases h1 with ⟨rfl,a,q,e⟩ | ⟨b,o,q,e,g1,g2,g3⟩
  ·cases e;simp at h2;have:n=0:=by omega
   subst this;exact Or.inl ⟨by simp,_,_,rfl⟩
  ·cases e
   refine Or.inr ⟨b,o,c,by rw[List.length_take,h2,Nat.min_eq_left (by omega)],by rw[List.length_take];omega,g2,fun i x hi j u hu=>g3 i x ?_ j u hu⟩
   rw[List.getElem?_take] at hi
   split at hi
   ·exact hi
   ·cases hi
 ·rw[List.getElem?_take] at hx he
  split at hx
  ·rename_i hi
   rw[if_pos hi] at he
   exact h3 i x e hx he
  ·cases hx
theorem sg_drop {w:World} {g N oc n c:Nat} {L:List (List Nd)} (h:Sg 1 IsL w (.slice (some ⟨g,0,none⟩) N oc) L) (hN:N=L.length) (hn:n≤N) (hc:N - n≤c):Sg 1 IsL w (.slice (some ⟨g,n,none⟩) (N - n) c) (L.drop n):=by
 obtain⟨cs,h1,h2,h3⟩:=h
 refine⟨cs.drop n,?_,by simp[h2],fun i x e hx he=>?_⟩
 ·rcases h1 with ⟨rfl,a,q,e⟩ | ⟨b,o,q,e,g1,g2,g3⟩
  ·simp at h2;have hN0:N - n=0:=by omega
   rw[hN0];exact Or.inl ⟨by simp,_,_,rfl⟩
  ·cases e
   refine Or.inr ⟨g,n,c,by rw[List.length_drop,h2,← hN],by rw[List.length_drop,h2,← hN];exact hc,g2,fun i x hi j u hu=>?_⟩
   rw[List.getElem?_drop] at hi
   have:=g3 (n+i) x hi j u hu
   rw[show n+i * 1+j=0+(n+i) * 1+j by omega];exact this
 ·rw[List.getElem?_drop] at hx he
  exact h3 (n+i) x e hx he
end Go.Proofs.YtmacepicoandkaaGreatDoor
namespace Go.Proofs.YtmacepicoandkaaGreatDoor
open Go.RowKit Go.Shelf Tx
theorem pow_few' {v:Nat} (h:v≤5):2 ^ v≤32:=Nat.pow_le_pow_right (by omega) h
theorem valA_may {e:List Nd} {l:List Bool} (h:Ux.mayA e l.length=true):(Ux.valA e l).1=Ux.valL l e:=by rw[valA_yes h]
theorem satV_sat {A B:List (List Nd)} {l:List Bool} (h:∀ e∈A++B,Ux.mayA e l.length=true):satV A B l=satP A B l:=by
 unfold satV satP
 have h1:A.all (fun e=>(Ux.valA e l).1)=A.all (fun e=>Ux.valL l e):=by
  rw[Bool.eq_iff_iff,List.all_eq_true,List.all_eq_true]
  exact⟨fun q e he=>by rw[← valA_may (h e (by simp[he]))];exact q e he,fun q e he=>by rw[valA_may (h e (by simp[he]))];exact q e he⟩
 have h2:(!B.any fun e=>(Ux.valA e l).1)=B.all (fun e=>!Ux.valL l e):=by
  rw[List.not_any_eq_all_not,Bool.eq_iff_iff,List.all_eq_true,List.all_eq_true]
  exact⟨fun q e he=>by rw[← valA_may (h e (by simp[he]))];exact q e he,fun q e he=>by rw[valA_may (h e (by simp[he]))];exact q e he⟩
 rw[h1,h2]
theorem satV2_sat {A:List (List Nd)} {x y:List Nd} {l:List Bool} (h:∀ e∈A++[x,y],Ux.mayA e l.length=true):satV2 A x y l=satP (A++[x,y]) [] l:=by
 unfold satV2 satP
 rw[List.all_append,List.all_nil,Bool.and_true]
 have h1:A.all (fun e=>(Ux.valA e l).1)=A.all (fun e=>Ux.valL l e):=by
  rw[Bool.eq_iff_iff,List.all_eq_true,List.all_eq_true]
  exact⟨fun q e he=>by rw[← valA_may (h e (by simp[he]))];exact q e he,fun q e he=>by rw[valA_may (h e (by simp[he]))];exact q e he⟩
 have h2:([x,y].all fun e=>(Ux.valA e l).1)=[x,y].all (fun e=>Ux.valL l e):=by
  simp only[List.all_cons,List.all_nil,valA_may (h x (by simp)),valA_may (h y (by simp))]
 rw[h1,h2]
def FirstIs (vars:Nat) (φ:List Bool→Bool) (b:Bool) (v:Value) (W:World):Prop :=
 (b=false∧v=.slice none 0 0∧∀ j,j<2 ^ vars→φ (Dd.rowList vars j)=false)∨(b=true∧∃ k,k<2 ^ vars∧φ (Dd.rowList vars k)=true∧(∀ j,j<k→φ (Dd.rowList vars j)=false)∧SlBools W v (Dd.rowList vars k))
theorem verd_first {vars bud:Nat} {A B:List (List Nd)} {φ:List Bool→Bool} {vd:Int} {v u:Value} {b:Bool} {W W':World} (hφ:∀ j,φ (Dd.rowList vars j)=satP A B (Dd.rowList vars j)) (h:VerdIs vars bud A B vd v W) (k:FirstIs vars φ b u W') :
  (vd=3∧v=.slice none 0 0∧bud≤2+costL vars (A++B))∨(vd=(if b=true then 2 else 1)∧∃ l,SlBools W v l∧SlBools W' u l∧l.length≤vars∧(b=false→l=[])):=by
 rcases h with h | ⟨h1,i,h2,h3,h4,h5⟩ | ⟨h1,h2,h3⟩
 ·exact Or.inl h
 ·right
  rcases k with ⟨rfl,_,k3⟩ | ⟨rfl,j,k2,k3,k4,k5⟩
  ·have:=k3 i h2;rw[hφ,h3] at this;cases this
  ·have hij:i=j:=by
    rcases Nat.lt_trichotomy i j with q | q | q
    ·have:=k4 i q;rw[hφ,h3] at this;cases this
    ·exact q
    ·have:=h4 j q;rw[← hφ,k3] at this;cases this
   subst hij
   exact⟨by rw[h1];rfl,_,h5,k5,by simp[Dd.rowList],fun q=>by cases q⟩
 ·right
  rcases k with ⟨rfl,k2,_⟩ | ⟨rfl,j,k2,k3,_,_⟩
  ·exact⟨by rw[h1];rfl,[],Or.inl ⟨h2,rfl⟩,Or.inl ⟨k2,rfl⟩,by simp,fun _=>rfl⟩
  ·have:=h3 j k2;rw[← hφ,k3] at this;cases this
theorem cost_ok {vars:Nat} (hv:vars≤5):∀ (L:List (List Nd)),costL vars L≤(L.map List.length).sum * 66+L.length * 96:=by
 intro L
 have hp:=pow_few' hv
 unfold costL
 induction L with
 | nil=>simp
 | cons e r ih =>
  simp only[List.map_cons,List.sum_cons,List.length_cons]
  have h1:costE vars e≤e.length * 66+96:=by
   unfold costE
   have h2:e.length * (2 * 2 ^ vars)≤e.length * 64:=Nat.mul_le_mul_left _ (by omega)
   omega
  rw[Nat.add_mul,Nat.add_mul]
  omega
end Go.Proofs.YtmacepicoandkaaGreatDoor
