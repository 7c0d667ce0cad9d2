/- The reference's reader of expressions: an expression out of a text: the walk. The function of an expression over atoms: the walk. What live of the laws of atoms lays: slices of expressions, of truths. live of the laws of atoms: the walk. -/
import Derived.Test.YtmacepicoandkaaGreatDoorJ24
import Derived.Test.YtmacepicoandkaaGreatDoorJ29
import Derived.Test.YtmacepicoandkaaGreatDoorJ31
import Derived.Test.YtmacepicoandkaaGreatDoorJ34
set_option linter.unusedVariables false
set_option linter.unusedSimpArgs false
namespace Go.Proofs.YtmacepicoandkaaGreatDoor
open Go.RowKit Go.Shelf Tx Px
theorem lexS_len:∀ r,(Lx.lexS r).1.length≤r.length:=by
 refine Lx.lex_ind ?_ ?_ ?_ ?_ ?_
 ·rw[Lx.lexS_nil];simp
 ·intro c r hb ih;rw[Lx.lexS_blank hb];simp;omega
 ·intro u hn hu hc ih;rw[Lx.lexS_com hn hu hc];have:=Lx.after_len hu;omega
 ·intro u e hn hu hc he;rw[Lx.lexS_err hn hu hc he];simp
 ·intro u k t hn hu hc ht hp hne ih
  rw[Lx.lexS_tok hn hu hc ht]
  have h2:=Lx.drop_len hp hne
  simp only[List.length_cons] at ih ⊢;omega
def endR (L:List Tok):Except (Int×Int) (Fo×Nat)→Except (Int×Int) Fo
 | .error e=>.error e
 | .ok (F,i)=>if i<L.length then .error (5,atP L i) else .ok F
def codeOk:Except (Int×Int) (Fo×Nat)→Prop
 | .error (c,_)=>c≠0
 | .ok _=>True
theorem codeOk_of {L:List Tok} {x:Except (Int×Int) (Fo×Nat)} (h:ParR L 0 x):codeOk x:=by
 match x,h with
 | .error (c,p),h=>exact (fault_par (L:=L) ⟨_,h,rfl⟩).1
 | .ok _,_=>trivial
def RdS (s:ByteArray) (r:Except (Int×Int) Fo):Prop:=match (Lx.lexS s.data.toList).2 with
 | some (c,m)=>r=.error ((c:Int),((s.size - m:Nat):Int))
 | none=>RdR (toks s.size (Lx.lexS s.data.toList).1) r
theorem toks_len (s:ByteArray):(toks s.size (Lx.lexS s.data.toList).1).length≤s.size:=by
 simp only[toks,List.length_map];have:=lexS_len s.data.toList;rwa [size_toList] at this
theorem toks_is (s:ByteArray):∀ t∈toks s.size (Lx.lexS s.data.toList).1,TokOk t:=toks_ok s.data.toList s.size
theorem RdS.all (s:ByteArray):∃ r,RdS s r:=by
 unfold RdS
 split
 ·exact⟨_,rfl⟩
 ·exact RdR.all (toks_is s)
def RdPost (w:World) (r:Except (Int×Int) Fo) (e:Ending) (w':World):Prop :=
 Below w.heap.size w w'∧match r with
 | .error (c,p)=>c≠0∧e=.returned (.tuple #[.slice none 0 0,.agg #[.int .i64 c,.int .i64 p]])
 | .ok F=>∃ v,e=.returned (.tuple #[v,.agg #[.int .i64 0,.int .i64 0]])∧OwnE w.heap.size w' v (F.flat 0)
set_option maxRecDepth 100000 in
set_option maxHeartbeats 4000000 in
theorem rRead_any (s : ByteArray) (hs : s.size ≤ 100000) (r : Except (Int × Int) Fo) (hr : RdS s r) (w : World) :
    Calls Tryz.prog 43 #[.string s] w (RdPost w r) := by
  have C1 := Blk.new w #[.int .i64 0, .int .i64 0] 91
  have hba : Below w.heap.size w (w.alloc (.cells #[.int .i64 0, .int .i64 0] 91)) := (Below.refl _ _).alloc (Nat.le_refl _) _
  have hz1 : (w.alloc (.cells #[.int .i64 0, .int .i64 0] 91)).heap.size = w.heap.size + 1 := by simp
  have hlex := rLex_any s hs (w.alloc (.cells #[.int .i64 0, .int .i64 0] 91))
  have HR := Lib.hid hr
  have HBA := Lib.hid hba
  have HC1 := Lib.hid C1
  clear hr hba C1
  go_enter Tryz.func43, Tryz.ntmps43
  go_wp2_with fail
  refine hlex.mono ?_
  rintro e w1 ⟨v, er, at_, rfl, hb1, hcase⟩
  have hk1 := HC1.out.below hb1
  have HK1 := Lib.hid hk1
  have HB1 := Lib.hid (below_next HBA.out hb1)
  have hlt1 := hk1.lt
  clear hlex hz1 hk1
  rcases hcase with ⟨rfl, rfl, hl, hown⟩ | ⟨c, m, hc, rfl, rfl, hl, rfl⟩
  · -- the tokens
    obtain ⟨L, hL⟩ : ∃ L, L = toks s.size (Lx.lexS s.data.toList).1 := ⟨_, rfl⟩
    have hLl := toks_len s
    have hLk := toks_is s
    have HRD : Hid (RdR L r) := by
      have h := HR.out
      unfold RdS at h; rw [hl] at h; rw [hL]; exact h
    rw [← hL] at hown hLl hLk
    have hLlen : (Lx.lexS s.data.toList).1.length = L.length := by rw [hL]; simp [toks]
    rw [hLlen] at hown
    have hsl : Sl tokC 3 w1 v L := Sl.own tokC_len hown rfl
    obtain ⟨x, hx, hrx⟩ := HRD.out
    obtain ⟨ta, tc, rfl, htc, -⟩ := hsl.form
    have nb := (Below.refl w1.heap.size w1).alloc (Nat.le_refl _) (.cells #[.int .i64 0, .int .i64 0] 91)
    have hz2 : (w1.alloc (.cells #[.int .i64 0, .int .i64 0] 91)).heap.size = w1.heap.size + 1 := by simp
    have hpar := rParse_any L (by omega) hLk (.slice ta L.length tc) 0 (Nat.zero_le _) x (w1.alloc (.cells #[.int .i64 0, .int .i64 0] 91)) (Sl.below hsl nb) hx
    have HSL := Lib.hid hsl
    have HNB := Lib.hid nb
    have HXR : Hid (r = endR L x) := by
      show _ = _
      rw [hrx]; match x with
      | .error e => rfl
      | .ok (F, i) => rfl
    have HXX := Lib.hid (codeOk_of hx)
    have HLK := Lib.hid hLk
    clear hown hL hLlen hx hrx hsl nb hLk HR HRD hl HC1 HBA
    go_wp2_with fail
    refine hpar.mono ?_
    rintro e w2 ⟨hb2, hpost⟩
    have hk2 := ((HK1.out.below HNB.out).below hb2)
    have HB2 : Hid (Below w.heap.size w w2) := below_next (below_next HB1.out HNB.out) hb2
    have HSL2 : Hid (Sl tokC 3 w2 (.slice ta L.length tc) L) := Sl.below (Sl.below HSL.out HNB.out) hb2
    obtain ⟨p0, p1, p2, p3⟩ := two_cells hk2
    have hlt2 := hk2.lt
    have HK2 := Lib.hid hk2
    have hsz2 : w1.heap.size + 1 ≤ w2.heap.size := by have := hb2.size; omega
    clear hpar hb2 hk2 hz2
    match x, hpost with
    | .error (c, p), he =>
      subst he
      have hc : c ≠ 0 := HXX.out
      have HRE : Hid (r = .error (c, p)) := HXR.out
      have e0 : (c != 0) = true := by simp [hc]
      have k3 := Blk.new w2 #[.int .i64 c, .int .i64 p] 91
      have B3 := (Below.refl w2.heap.size w2).alloc (Nat.le_refl _) (.cells #[.int .i64 c, .int .i64 p] 91)
      have q0 := (B3.cell (p := ⟨w.heap.size, 0, none⟩) hlt2).trans p0
      have q1 := (B3.cell (p := ⟨w.heap.size, 1, none⟩) hlt2).trans p1
      have q2 := (B3.frozen (p := ⟨w.heap.size, 0, none⟩) hlt2).trans p2
      have q3 := (B3.frozen (p := ⟨w.heap.size, 1, none⟩) hlt2).trans p3
      have hne : w.heap.size ≠ w2.heap.size := by omega
      have HS : Hid (Below w.heap.size w ((((w2.setCell ⟨w.heap.size, 0, none⟩ (.int .i64 c)).setCell ⟨w.heap.size, 1, none⟩ (.int .i64 p)).alloc (.cells #[.int .i64 c, .int .i64 p] 91)).drew)) :=
        (((HB2.out.setCell (Nat.le_refl _) _).setCell (Nat.le_refl _) _).alloc (by simp; omega) _).drew
      clear k3 B3 hpost
      go_wp2_with fail
      go_region
      all_goals
        go_wp2_with fail
        refine bodyPost_ret (v := .tuple #[.slice none 0 0, .agg #[.int .i64 c, .int .i64 p]]) (by simp [results, Tryz.results43, go_sem, p0, p1, hlt2]) rfl ?_
        rw [HRE.out]
        exact ⟨HS.out, hc, rfl⟩
    | .ok (F, i), ⟨v2, he, hO⟩ =>
      cases he
      obtain ⟨ya, yc, rfl, -⟩ := hO.form
      rw [Fo.flat_len] at hO ⊢
      have hlow : ∀ g, (Value.slice ya F.size yc).ownBlock = some g → g ≠ w.heap.size := fun g hg e => by have h1 := (hO.low g hg).1; have := HNB.out.size; omega
      have HLOW := Lib.hid hlow
      have HO := Lib.hid (hO.mono (b2 := w.heap.size) (by have := HNB.out.size; have := HB1.out.size; omega))
      have k3 := Blk.new w2 #[.int .i64 0, .int .i64 0] 91
      have B3 := (Below.refl w2.heap.size w2).alloc (Nat.le_refl _) (.cells #[.int .i64 0, .int .i64 0] 91)
      have q0 := (B3.cell (p := ⟨w.heap.size, 0, none⟩) hlt2).trans p0
      have q1 := (B3.cell (p := ⟨w.heap.size, 1, none⟩) hlt2).trans p1
      have q2 := (B3.frozen (p := ⟨w.heap.size, 0, none⟩) hlt2).trans p2
      have q3 := (B3.frozen (p := ⟨w.heap.size, 1, none⟩) hlt2).trans p3
      have hne : w.heap.size ≠ w2.heap.size := by omega
      by_cases hil : i < L.length
      · obtain ⟨t, ht⟩ : ∃ t, L[i]? = some t := ⟨_, List.getElem?_eq_getElem hil⟩
        have HRE : Hid (r = .error (5, (t.p : Int))) := by
          have h := HXR.out
          unfold endR at h; simp only [if_pos hil, atP_lt ht] at h; exact h
        obtain ⟨ta', tc', h4, -, hcell⟩ := HSL2.out.form
        cases h4
        obtain ⟨b, o, rfl, hj⟩ := hcell w2 (Below.refl _ _) i t ht
        have d2 := hj 2 _ rfl
        have hbl : b < w2.heap.size := World.block_lt_of_cell? w2 _ d2
        have d2' := (B3.cell (p := ⟨b, o + i * 3 + 2, none⟩) hbl).trans d2
        have hil2 : (i : Int) < (L.length : Int) := by omega
        have hi0 : (0 : Int) ≤ (i : Int) := by omega
        have hnb : b ≠ w2.heap.size := by omega
        have HS : Hid (Below w.heap.size w ((((w2.setCell ⟨w.heap.size, 0, none⟩ (.int .i64 5)).setCell ⟨w.heap.size, 1, none⟩ (.int .i64 t.p)).alloc (.cells #[.int .i64 0, .int .i64 0] 91)).drew)) :=
          (((HB2.out.setCell (Nat.le_refl _) _).setCell (Nat.le_refl _) _).alloc (by simp; omega) _).drew
        clear k3 B3 hpost hO hlow hcell hj ht hil
        go_wp2_with fail
        go_region
        all_goals
          go_wp2_with fail
          refine bodyPost_ret (v := .tuple #[.slice none 0 0, .agg #[.int .i64 5, .int .i64 t.p]]) (by simp [results, Tryz.results43, go_sem, p0, p1, hlt2]) rfl ?_
          rw [HRE.out]
          exact ⟨HS.out, by decide, rfl⟩
      · have HRE : Hid (r = .ok F) := by
          have h := HXR.out
          unfold endR at h; simp only [if_neg hil] at h; exact h
        have hil2 : ¬ (i : Int) < (L.length : Int) := by omega
        have HS : Hid (Below w.heap.size w (((w2.setCell ⟨w.heap.size, 0, none⟩ (.int .i64 0)).setCell ⟨w.heap.size, 1, none⟩ (.int .i64 0)).alloc (.cells #[.int .i64 0, .int .i64 0] 91)) ∧
            OwnE w.heap.size (((w2.setCell ⟨w.heap.size, 0, none⟩ (.int .i64 0)).setCell ⟨w.heap.size, 1, none⟩ (.int .i64 0)).alloc (.cells #[.int .i64 0, .int .i64 0] 91)) (.slice ya F.size yc) (F.flat 0)) :=
          ⟨((HB2.out.setCell (Nat.le_refl _) _).setCell (Nat.le_refl _) _).alloc (by simp; omega) _,
           (OwnE.set (OwnE.set HO.out (fun e => HLOW.out _ e rfl) _ _) (fun e => HLOW.out _ e rfl) _ _).below ((Below.refl _ _).alloc (Nat.le_refl _) _)⟩
        clear k3 B3 hpost hO hlow hil
        go_wp2_with fail
        refine bodyPost_ret (v := .tuple #[.slice ya F.size yc, .agg #[.int .i64 0, .int .i64 0]]) (by simp [results, Tryz.results43, go_sem, p0, p1, hlt2]) rfl ?_
        rw [HRE.out]
        exact ⟨HS.out.1, _, rfl, HS.out.2⟩
  · have HRE : Hid (r = .error ((c : Int), ((s.size - m : Nat) : Int))) := by
      have h := HR.out
      unfold RdS at h; rw [hl] at h; exact h
    have hk1 := HK1.out
    obtain ⟨p0, p1, p2, p3⟩ := two_cells hk1
    have B3 := (Below.refl w1.heap.size w1).alloc (Nat.le_refl _) (.cells #[.int .i64 c, .int .i64 (s.size - m : Nat)] 91)
    have q0 := (B3.cell (p := ⟨w.heap.size, 0, none⟩) hlt1).trans p0
    have q1 := (B3.cell (p := ⟨w.heap.size, 1, none⟩) hlt1).trans p1
    have q2 := (B3.frozen (p := ⟨w.heap.size, 0, none⟩) hlt1).trans p2
    have q3 := (B3.frozen (p := ⟨w.heap.size, 1, none⟩) hlt1).trans p3
    have hne : w.heap.size ≠ w1.heap.size := by omega
    have hc' : (c : Int) ≠ 0 := by omega
    have e0 : ((c : Int) != 0) = true := by simp [hc]
    obtain ⟨pm, hpm⟩ : ∃ pm, pm = s.size - m := ⟨_, rfl⟩
    rw [← hpm] at q0 q1 q2 q3 HRE ⊢
    have HS : Hid (Below w.heap.size w ((((w1.setCell ⟨w.heap.size, 0, none⟩ (.int .i64 c)).setCell ⟨w.heap.size, 1, none⟩ (.int .i64 pm)).alloc (.cells #[.int .i64 c, .int .i64 pm] 91)).drew)) :=
      (((HB1.out.setCell (Nat.le_refl _) _).setCell (Nat.le_refl _) _).alloc (by simp; omega) _).drew
    clear B3 hk1 hpm hl
    go_wp2_with fail
    go_region
    all_goals
      go_wp2_with fail
      refine bodyPost_ret (v := .tuple #[.slice none 0 0, .agg #[.int .i64 c, .int .i64 pm]]) (by simp [results, Tryz.results43, go_sem, p0, p1, hlt1]) rfl ?_
      rw [HRE.out]
      exact ⟨HS.out, hc', rfl⟩
end Go.Proofs.YtmacepicoandkaaGreatDoor
namespace Go.Proofs.YtmacepicoandkaaGreatDoor
open Go.RowKit Go.Shelf Tx
theorem good_of_may {e:List Nd} {most:Nat} (hm:most≤1000000000) (h:Ux.mayA e most=true):goodI e=true:=by
 unfold Ux.mayA at h
 rw[Bool.and_eq_true] at h
 refine goodI_yes h.1 fun j x hx=>?_
 have h1:=List.all_eq_true.1 h.2 x (List.mem_of_getElem? hx)
 unfold Ux.nodeA at h1
 unfold Ux.badP
 cases hl:Ux.isLogic x.op with
 | true=>rfl
 | false =>
  rw[hl] at h1
  simp only[Bool.false_or,Bool.and_eq_true,beq_iff_eq,Option.isSome_iff_exists] at h1
  obtain⟨h2,k,h3⟩:=h1
  have:=(Ux.numP_numOf hm h3).1
  rw[this,h2];rfl
theorem may_of_good {e:List Nd} {most:Nat} (hm:most≤1000000000) (h:goodI e=true) (hin:∀ x∈e,x.op=3→∀ m,Ux.numP x.s=some m→0≤m∧m<(most:Int)):Ux.mayA e most=true:=by
 unfold goodI at h
 rw[Bool.and_eq_true] at h
 unfold Ux.mayA
 rw[h.1,Bool.true_and,List.all_eq_true]
 intro x hx
 have h1:=List.all_eq_true.1 h.2 x hx
 unfold Ux.badP at h1
 unfold Ux.nodeA
 by_cases h3:x.op=3
 ·rw[h3] at h1
  cases hq:Ux.numP x.s with
  | none=>rw[hq] at h1;simp[Ux.isLogic] at h1
  | some m =>
   obtain⟨h4,h5⟩:=hin x hx h3 m hq
   obtain⟨k,rfl⟩ : ∃ k:Nat,m=(k:Int):=⟨m.toNat,by omega⟩
   rw[(Ux.num_both hm k).2 ⟨hq,by omega⟩,h3];rfl
 ·have:(x.op != 3)=true:=by simpa using h3
  rw[this] at h1
  simp at h1;rw[h1];rfl
theorem may_out {e:List Nd} {most:Nat} (hm:most≤1000000000) {t:Nat} {x:Nd} {m:Int} (hx:e[t]?=some x) (h3:x.op=3) (hv:Ux.numP x.s=some m) (hr:m<0∨(most:Int)≤m):Ux.mayA e most=false:=by
 cases h:Ux.mayA e most with
 | false=>rfl
 | true =>
  unfold Ux.mayA at h
  rw[Bool.and_eq_true] at h
  have h1:=List.all_eq_true.1 h.2 x (List.mem_of_getElem? hx)
  unfold Ux.nodeA at h1
  rw[show Ux.isLogic x.op=false by rw[h3];rfl] at h1
  simp only[Bool.false_or,Bool.and_eq_true,beq_iff_eq,Option.isSome_iff_exists] at h1
  obtain⟨h2,k,h4⟩:=h1
  obtain⟨h5,h6⟩:=Ux.numP_numOf hm h4
  rw[hv] at h5;cases h5;omega
theorem RunI.trans {B:Nat} {w w1 w2:World} {s0 s1 s2:St} (h:RunI B w s0 w1 s1) (k:RunI B w1 s1 w2 s2):RunI B w s0 w2 s2 :=
 ⟨k.store,h.more.trans k.more h.below.size,h.below.trans k.below,k.bl,h.fr.trans k.fr (fun i hi q=>h.more.bl i hi q)⟩
def MakePost (e:List Nd) (B:Nat) (w:World) (s0:St) (r:Ending) (w':World):Prop :=
 ∃ (v er:Int) (s':St),r=.returned (.tuple #[.int .i64 v,.int .i64 er])∧RunI B w s0 w' s'∧s'.ns.length≤s0.ns.length+(e.length+(e.length+e.length * (2 * 2 ^ s0.vars))) ∧
  ((Ux.mayA e s0.vars=false∧er=1∧v=0)∨(Ux.mayA e s0.vars=true∧er=18∧v=0∧s'.ns.length=s0.budget)∨(Ux.mayA e s0.vars=true∧er=0∧DenI s' v (fun l=>Ux.valL l e)))
set_option maxRecDepth 100000 in
set_option maxHeartbeats 8000000 in
theorem Make_any (e:List Nd) (v:Value) (s0:St) (B:Nat) (w:World) (he:e.length≤5000) (hs:∀ x∈e,x.s.size≤281474976710656) (hB:B≤w.heap.size) (hE:∀ W,Below B w W→IsE W v e) (hG:∀ W,Below B w W→Gl W) (hS0:StoreAt w s0) (hbl:∀ k,s0.bl k→B≤k) :
  Calls Tryz.prog 27 #[.pointer (some ⟨s0.sb,0,none⟩),v] w (MakePost e B w s0):=by
 obtain⟨a,c,rfl,hcl,-⟩:=(hE w (Below.refl _ _)).form
 have hx:∀ W,Below B w W→∀ i x,e[i]?=some x→∃ b o,a=some ⟨b,o,none⟩∧∀ j u,(ndL x)[j]?=some u→W.cell? ⟨b,o+i * 6+j,none⟩=some u:=fun W h=>by
  obtain⟨a',c',e',-,hx'⟩:=(hE W h).form
  cases e';exact hx' W (Below.refl _ _)
 obtain⟨n,hn⟩ : ∃ n,n=e.length:=⟨_,rfl⟩
 have hI0:RunI B w s0 w s0:=⟨hS0,More.refl _ _,Below.refl _ _,hbl,Fr.refl _ _⟩
 have HVM:Hid (s0.vars≤1000000000):=by have:=hS0.small;show _≤_;omega
 rw[← hn] at hcl he hE ⊢
 have HN:=Lib.hid hn
 have HX:=Lib.hid hx
 have HS:=Lib.hid hs
 have HG:=Lib.hid hG
 have HE:=Lib.hid hE
 have HBB:=Lib.hid hB
 clear hn hx hE hG hs hS0 hbl hB
 go_enter Tryz.func27,Tryz.ntmps27
 go_wp2_with fail
 go_loopw [16] (fun iv wr=>∃ (t:Nat) (s:St),iv=.int .i64 t∧t≤n∧RunI B w s0 wr s∧s.ns.length≤s0.ns.length+t∧(∀ (j:Nat) (x:Nd),j<t→e[j]?=some x→x.op=3→∀ m,Ux.numP x.s=some m→0≤m∧m<(s0.vars:Int))) (fun iv _=>n - (intOf iv).toNat)
 case atStart=>exact⟨0,s0,rfl,Nat.zero_le _,hI0,Nat.le_refl _,fun j x h=>by omega⟩
 case round =>
  obtain⟨t,s,rfl,ht,hI,hc,hin⟩:=hrel
  have HI:=Lib.hid hI
  have HC:=Lib.hid hc
  have HIN:=Lib.hid hin
  clear hI0 hI hc hin
  by_cases hlt:t<n
  ·obtain⟨x,hx⟩ : ∃ x,e[t]?=some x:=⟨_,List.getElem?_eq_getElem (by have:=HN.out;omega)⟩
   obtain⟨b,o,rfl,hcell⟩:=HX.out wr HI.out.below t x hx
   obtain⟨c0,c1,c2,c3,c4,c5⟩:=nd_cells hcell
   have HXX:=Lib.hid hx
   have hxs:=HS.out x (List.mem_of_getElem? hx)
   have htn:(t:Int)<(n:Int):=by omega
   have ht0:(0:Int)≤(t:Int):=by omega
   clear hx hcell
   have nb:=(Below.refl wr.heap.size wr).alloc (Nat.le_refl _) (.cells (ndA x) 85)
   have kb:=Blk.new wr (ndA x) 85
   go_wp2_with fail
   generalize hW1:wr.alloc (.cells #[.int .i64 x.op,.int .i64 x.a,.int .i64 x.b,.int .i64 x.c,.int .i64 x.n,.string x.s] 85)=W1
   have HI1:Hid (RunI B w s0 W1 s):=by rw[← hW1];exact HI.out.pure nb HBB.out
   obtain⟨nbk,hnbk⟩ : ∃ q,q=wr.heap.size:=⟨_,rfl⟩
   have kb1:Blk W1 nbk #[.int .i64 x.op,.int .i64 x.a,.int .i64 x.b,.int .i64 x.c,.int .i64 x.n,.string x.s] 85:=by rw[← hW1,hnbk];exact kb
   rw[← hnbk]
   clear hW1 hnbk kb nb c0 c1 c2 c3 c4 c5
   obtain⟨c0,c1,c2,c3,c4,c5⟩:=six_cells kb1
   refine (number_any x.s W1 hxs (HG.out _ HI1.out.below)).mono ?_
   rintro r w2 ⟨nv,rfl,hnv,hb2⟩
   have HI2:=Lib.hid (HI1.out.pure hb2 HBB.out)
   have kb2:=kb1.below hb2
   have HNV:=Lib.hid hnv
   obtain⟨N,hN⟩ : ∃ N,N=(Ux.numP x.s).isSome:=⟨_,rfl⟩
   rw[← hN]
   have HNN:=Lib.hid hN
   clear hN hnv hb2 kb1 c0 c1 c2 c3 c4 c5
   obtain⟨c0,c1,c2,c3,c4,c5⟩:=six_cells kb2
   clear kb2
   obtain⟨q,hq⟩ : ∃ q,q=(x.op==3):=⟨_,rfl⟩
   have HQ:=Lib.hid hq
   have hqq:=hq.symm
   clear hq
   have HC1:Hid (s.ns.length≤s0.ns.length+(t+1)):=by have:=HC.out;show s.ns.length≤_;omega
   have hor:(N=false)∨(N=true∧q=false)∨(N=true∧q=true):=by cases N <;> cases q <;> simp
   rcases hor with rfl | ⟨rfl,rfl⟩ | ⟨rfl,rfl⟩
   ·have HIN2:Hid (∀ (j:Nat) (y:Nd),j<t+1→e[j]?=some y→y.op=3→∀ m,Ux.numP y.s=some m→0≤m∧m<(s0.vars:Int)):=fun j y hj hy h3 m hm=>by
     by_cases h:j=t
     ·subst h;rw[HXX.out] at hy;cases hy;have:=HNN.out;rw[hm] at this;cases this
     ·exact HIN.out j y (by omega) hy h3 m hm
    go_wp2_with fail
    go_roundw
    case rel=>exact⟨t+1,s,by go_num,by omega,HI2.out,HC1.out,HIN2.out⟩
    case measure=>simp[intOf];omega
   ·have HIN2:Hid (∀ (j:Nat) (y:Nd),j<t+1→e[j]?=some y→y.op=3→∀ m,Ux.numP y.s=some m→0≤m∧m<(s0.vars:Int)):=fun j y hj hy h3 m hm=>by
     by_cases h:j=t
     ·subst h;rw[HXX.out] at hy;cases hy;have:=HQ.out;rw[h3] at this;cases this
     ·exact HIN.out j y (by omega) hy h3 m hm
    go_wp2_with fail
    go_roundw
    case rel=>exact⟨t+1,s,by go_num,by omega,HI2.out,HC1.out,HIN2.out⟩
    case measure=>simp[intOf];omega
   ·obtain⟨m,hm⟩ : ∃ m,Ux.numP x.s=some m:=Option.isSome_iff_exists.1 HNN.out.symm
    have hmv:=HNV.out m hm
    subst hmv
    have HM:=Lib.hid hm
    have H3:Hid (x.op=3):=by have:=HQ.out;show _=_;simpa using this.symm
    clear hm
    by_cases hmr:0≤m∧m<(s0.vars:Int)
    ·obtain⟨k,rfl⟩ : ∃ k:Nat,m=(k:Int):=⟨m.toNat,by omega⟩
     have hcall:=var_any w2 s HI2.out.store k (by rw[HI2.out.more.vars];omega)
     rw[HI2.out.more.sb] at hcall
     have HIN2:Hid (∀ (j:Nat) (y:Nd),j<t+1→e[j]?=some y→y.op=3→∀ m,Ux.numP y.s=some m→0≤m∧m<(s0.vars:Int)):=fun j y hj hy h3 m hm=>by
      by_cases h:j=t
      ·subst h;rw[HXX.out] at hy;cases hy;rw[HM.out] at hm;cases hm;exact hmr
      ·exact HIN.out j y (by omega) hy h3 m hm
     clear hmr
     go_wp2_with fail
     refine hcall.mono ?_
     rintro r w3 ⟨f,er,s3,rfl,hS3,hM3,hF3,hf3,hcn3,hor3⟩
     have HI3:=Lib.hid (HI2.out.next hS3 hM3 hF3 HBB.out)
     have HC3:Hid (s3.ns.length≤s0.ns.length+(t+1)):=by have:=HC.out;show s3.ns.length≤_;omega
     clear hcall hS3 hM3 hF3 hf3 hcn3
     rcases hor3 with ⟨rfl,-⟩ | ⟨rfl,-,-⟩
     all_goals
      go_wp2_with fail
      go_roundw
      case rel=>exact⟨t+1,s3,by go_num,by omega,HI3.out,HC3.out,HIN2.out⟩
      case measure=>simp[intOf];omega
    ·have hout:m<0∨(s0.vars:Int)≤m:=by omega
     have HF:Hid (Ux.mayA e s0.vars=false):=may_out HVM.out HXX.out H3.out HM.out hout
     have hcall:=var_bad w2 s HI2.out.store m (by rw[HI2.out.more.vars];exact hout)
     rw[HI2.out.more.sb] at hcall
     have HCO:Hid (s.ns.length≤s0.ns.length+(e.length+(e.length+e.length * (2 * 2 ^ s0.vars)))):=by
      have h1:=HC.out
      have h2:=HN.out
      show s.ns.length≤_
      generalize e.length * (2 * 2 ^ s0.vars)=q;omega
     clear hmr hout
     go_wp2_with fail
     refine hcall.mono ?_
     rintro r w3 ⟨rfl,rfl⟩
     clear hcall
     go_wp2_with fail
     go_ret2
     exact⟨0,1,s,rfl,HI2.out,HCO.out,Or.inl ⟨HF.out,rfl,rfl⟩⟩
  ·have hte:t=n:=by omega
   subst hte
   have hcall:=runI_any e (.slice a t c) s B wr (by rw[← HN.out];exact he) HS.out (Nat.le_trans HBB.out HI.out.below.size) (fun W h=>HE.out W (HI.out.below.trans h)) (fun W h=>HG.out W (HI.out.below.trans h)) HI.out.store HI.out.bl
    (fun x hx h3 m hm=>by
     obtain⟨j,hj⟩:=List.mem_iff_getElem?.1 hx
     rw[HI.out.more.vars]
     exact HIN.out j x (by have:=(List.getElem?_eq_some_iff.1 hj).1;have:=HN.out;omega) hj h3 m hm)
   rw[HI.out.more.sb] at hcall
   have HALL:Hid (∀ x∈e,x.op=3→∀ m,Ux.numP x.s=some m→0≤m∧m<(s0.vars:Int)):=fun x hx h3 m hm=>by
    obtain⟨j,hj⟩:=List.mem_iff_getElem?.1 hx
    exact HIN.out j x (by have:=(List.getElem?_eq_some_iff.1 hj).1;have:=HN.out;omega) hj h3 m hm
   go_wp2_with fail
   refine hcall.mono ?_
   rintro r w3 ⟨u,er,s3,rfl,hI3,hc3,hor⟩
   have HI3:=Lib.hid (HI.out.trans hI3)
   have HCO:Hid (s3.ns.length≤s0.ns.length+(e.length+(e.length+e.length * (2 * 2 ^ s0.vars)))):=by
    have h1:=HC.out
    have h2:=HN.out
    rw[HI.out.more.vars] at hc3
    show s3.ns.length≤_
    revert hc3
    generalize e.length * (2 * 2 ^ s0.vars)=q;intro hc3;omega
   have HOR:Hid ((Ux.mayA e s0.vars=false∧er=1∧u=0)∨(Ux.mayA e s0.vars=true∧er=18∧u=0∧s3.ns.length=s0.budget)∨(Ux.mayA e s0.vars=true∧er=0∧DenI s3 u (fun l=>Ux.valL l e))):=by
    rcases hor with ⟨h1,h2⟩ | ⟨h1,h2,h3,h4⟩ | ⟨h1,h2⟩
    ·refine Or.inl ⟨?_,h2⟩
     cases hq:Ux.mayA e s0.vars with
     | false=>rfl
     | true=>have:=good_of_may HVM.out hq;rw[h1] at this;cases this
    ·exact Or.inr (Or.inl ⟨may_of_good HVM.out h1 HALL.out,h2,h3,by rw[h4,HI.out.more.budget]⟩)
    ·exact Or.inr (Or.inr ⟨may_of_good HVM.out h1 HALL.out,h2⟩)
   clear hcall hI3 hc3 hor
   go_wp2_with fail
   go_ret2
   exact⟨u,er,s3,rfl,HI3.out,HCO.out,HOR.out⟩
end Go.Proofs.YtmacepicoandkaaGreatDoor
namespace Go.Proofs.YtmacepicoandkaaGreatDoor
open Go.RowKit Go.Shelf Tx Px
theorem lit2E {w:World} {u1 u2:Value} {e1 e2:List Nd} (h1:IsE w u1 e1) (h2:IsE w u2 e2):Sg 1 IsL (w.alloc (.cells #[u1,u2] 54)) (.slice (some ⟨w.heap.size,0,none⟩) 2 2) [e1,e2]:=by
 have nb:=(Below.refl w.heap.size w).alloc (Nat.le_refl _) (.cells #[u1,u2] 54)
 have hb:=heap_alloc_new w (.cells #[u1,u2] 54)
 refine⟨[[u1],[u2]],Or.inr ⟨w.heap.size,0,2,rfl,Nat.le_refl _,by rw[World.size_alloc];omega,fun i x hi j u hu=>?_⟩,rfl,fun i c x hc hx=>?_⟩
 ·match i with
  | 0 =>
   simp at hi;subst hi
   cases j with
   | zero=>simp at hu;subst hu;(unfold World.cell?;rw[hb];rfl)
   | succ j=>simp at hu
  | 1 =>
   simp at hi;subst hi
   cases j with
   | zero=>simp at hu;subst hu;(unfold World.cell?;rw[hb];rfl)
   | succ j=>simp at hu
  | i+2=>simp at hi
 ·match i with
  | 0=>simp at hc hx;subst hc hx;exact⟨u1,rfl,Sl.below h1 nb⟩
  | 1=>simp at hc hx;subst hc hx;exact⟨u2,rfl,Sl.below h2 nb⟩
  | i+2=>simp at hc
theorem lit2B (w:World) (x y:Bool):SlBools (w.alloc (.cells #[.bool x,.bool y] 4)) (.slice (some ⟨w.heap.size,0,none⟩) 2 2) [x,y]:=by
 have hb:=heap_alloc_new w (.cells #[.bool x,.bool y] 4)
 refine Or.inr ⟨w.heap.size,0,2,rfl,by rw[World.size_alloc];omega,fun i hi=>?_⟩
 match i with
 | 0=>(unfold World.cell?;rw[hb];rfl)
 | 1=>(unfold World.cell?;rw[hb];rfl)
 | i+2=>exact absurd hi (by simp)
end Go.Proofs.YtmacepicoandkaaGreatDoor
namespace Go.Proofs.YtmacepicoandkaaGreatDoor
open Go.RowKit Go.Shelf Tx Px
def smallS (e:List Nd):Prop:=∀ x∈e,x.s.size≤281474976710656
instance (e:List Nd):Decidable (smallS e):=by unfold smallS;infer_instance
end Go.Proofs.YtmacepicoandkaaGreatDoor
