/- The reference's lexer: the walk of Lex. The reference's reader of expressions: its memory; signs and words, what is passed, expressions put together: the walk. The reference's reader of expressions: what is passed, what must be passed, expressions put together: the walk. -/
import Derived.Test.YtmacepicoandkaaGreatDoorJ12
import Derived.Test.YtmacepicoandkaaGreatDoorJ13
import Derived.Test.YtmacepicoandkaaGreatDoorJ15
set_option linter.unusedVariables false
set_option linter.unusedSimpArgs false
namespace Go.Proofs.YtmacepicoandkaaGreatDoor
open Go.RowKit Go.Shelf
namespace Lx
theorem lexS_after (u:Bs):lexS (u.dropWhile (· != 10))=lexS (afterLine u):=by
 unfold afterLine
 cases h:u.dropWhile (· != 10) with
 | nil=>rfl
 | cons c r =>
  have hc:c=10:=by
   have:∀ l:Bs,∀ c r,l.dropWhile (· != 10)=c :: r→c=10:=by
    intro l
    induction l with
    | nil=>intro c r h;simp at h
    | cons x l ih =>
     intro c r h
     rw[List.dropWhile_cons] at h
     split at h
     ·exact ih c r h
     ·rename_i hx;cases h;simpa using hx
   exact this u c r h
  subst hc
  exact lexS_blank (by decide)
theorem drop_row (p:UInt8→Bool) (l:Bs):l.drop (l.takeWhile p).length=l.dropWhile p:=by
 induction l with
 | nil=>rfl
 | cons x l ih=>rw[List.takeWhile_cons,List.dropWhile_cons];split <;> simp_all
theorem bl_iff (c:UInt8):isBl c=true↔c=32∨c=9∨c=10∨c=13:=by
 simp[isBl,Bool.or_eq_true,or_assoc]
end Lx
theorem byte_eq {c d:UInt8} : (((c.toNat:Nat):Int)==((d.toNat:Nat):Int))=decide (c=d):=by
 rw[Bool.eq_iff_iff,beq_iff_eq,decide_eq_true_eq,← UInt8.toNat_inj];omega
theorem byte_ne {c d:UInt8} : (((c.toNat:Nat):Int) != ((d.toNat:Nat):Int)) = !decide (c=d):=by
 rw[bne,byte_eq]
theorem bl_cases (c:UInt8) (h:Lx.isBl c=true):(((c.toNat:Nat):Int)==32)=true∨((((c.toNat:Nat):Int)==32)=false∧(((c.toNat:Nat):Int)==9)=true) ∨
  ((((c.toNat:Nat):Int)==32)=false∧(((c.toNat:Nat):Int)==9)=false∧(((c.toNat:Nat):Int)==10)=true) ∨
  ((((c.toNat:Nat):Int)==32)=false∧(((c.toNat:Nat):Int)==9)=false∧(((c.toNat:Nat):Int)==10)=false∧(((c.toNat:Nat):Int)==13)=true):=by
 rcases (Lx.bl_iff c).1 h with rfl | rfl | rfl | rfl <;> decide
theorem bl_none (c:UInt8) (h:Lx.isBl c=false):(((c.toNat:Nat):Int)==32)=false∧(((c.toNat:Nat):Int)==9)=false∧(((c.toNat:Nat):Int)==10)=false∧(((c.toNat:Nat):Int)==13)=false:=by
 have h2:∀ d:UInt8,Lx.isBl d=true→(((c.toNat:Nat):Int)==((d.toNat:Nat):Int))=false:=fun d hd=>by
  rw[byte_eq]
  by_cases e:c=d
  ·subst e;rw[h] at hd;cases hd
  ·simp[e]
 exact⟨h2 32 (by decide),h2 9 (by decide),h2 10 (by decide),h2 13 (by decide)⟩
theorem ext_size (s:ByteArray) (k:Nat) (_h:k≤s.size):(s.extract k s.size).size=s.size - k:=by
 rw[← size_toList,extract_drop,List.length_drop,size_toList]
theorem drop_at (s:ByteArray) (k:Nat) (h:k<s.size):s.data.toList.drop k=s[k] :: s.data.toList.drop (k+1):=by
 rw[List.drop_eq_getElem_cons (by rw[size_toList];exact h)];rfl
theorem com_iff (s:ByteArray) (a:Nat) (h:a<s.size):Lx.isCom (s.data.toList.drop a)=true ↔ ∃ h2:a+1<s.size,s[a]=45∧s[a+1]=45:=by
 unfold Lx.isCom
 rw[drop_at s a h]
 constructor
 ·intro q
  by_cases h2:a+1<s.size
  ·rw[drop_at s (a+1) h2] at q
   simp[List.isPrefixOf] at q
   exact⟨h2,q.1.symm,q.2.symm⟩
  ·have:s.data.toList.drop (a+1)=[]:=by rw[List.drop_eq_nil_iff,size_toList];omega
   rw[this] at q
   simp[List.isPrefixOf] at q
 ·rintro ⟨h2,h3,h4⟩
  rw[drop_at s (a+1) h2,h3,h4]
  simp[List.isPrefixOf]
theorem is45 {c:UInt8} : (((c.toNat:Nat):Int)==45)=decide (c=45):=byte_eq (d:=45)
theorem is10 {c:UInt8} : (((c.toNat:Nat):Int) != 10) = !decide (c=10):=byte_ne (d:=10)
set_option maxRecDepth 100000 in
set_option maxHeartbeats 4000000 in
theorem rLex_any (s:ByteArray) (hs:s.size≤100000) (w:World) :
  Calls Tryz.prog 68 #[.string s] w (LexPost s w):=by
 have hR:=heap_alloc_new w (.cells #[.int .i64 0,.int .i64 0] 91)
 go_enter Tryz.func68,Tryz.ntmps68
 go_wp2_with fail
 go_loopw [4,5] (fun l i wr=>∃ (a:Nat) (done:List Lx.R),a≤s.size∧i=.int .i64 a∧LexLp s w l (s.extract a s.size) done wr) (fun _ i _=>s.size - (intOf i).toNat)
 case atStart=>exact⟨0,[],Nat.zero_le _,rfl,by simp,by simp,(Below.refl _ _).alloc (Nat.le_refl _) _,hR,World.ownsRow_nil _ _ _ _,by rw[extract_drop];simp⟩
 case round =>
  obtain⟨a,done,ha,rfl,LP⟩:=hrel
  clear hR
  by_cases hlt:a<s.size
  ·have ha2:(a:Int)<(s.size:Int):=by omega
   have HDA:Hid (s.data.toList.drop a=s[a] :: s.data.toList.drop (a+1)):=drop_at s a hlt
   by_cases hbl:Lx.isBl s[a]=true
   ·have LP2:LexLp s w u4 (s.extract (a+1) s.size) done wr:=LP.step (Below.refl _ _) (by rw[ext_size _ _ (by omega),ext_size _ _ ha];omega) (by rw[extract_drop,extract_drop,HDA.out,Lx.lexS_blank hbl])
    have hor:=bl_cases s[a] hbl
    clear hbl LP
    rcases hor with h1 | ⟨h1,h2⟩ | ⟨h1,h2,h3⟩ | ⟨h1,h2,h3,h4⟩
    all_goals
     go_wp2_with fail
     go_roundw
     case rel=>exact⟨a+1,done,by omega,by go_num,LP2⟩
     case measure=>simp[intOf];omega
   ·have hbl2:Lx.isBl s[a]=false:=by simpa using hbl
    obtain⟨h1,h2,h3,h4⟩:=bl_none s[a] hbl2
    obtain⟨r,hr⟩ : ∃ r,r=s.extract a s.size:=⟨_,rfl⟩
    have HR:Hid (r.data.toList=s.data.toList.drop a):=by show _=_;rw[hr,extract_drop]
    have hrs:r.size=s.size - a:=by rw[hr,ext_size _ _ ha]
    have HB:Hid (r.data.toList.dropWhile Lx.isBl=r.data.toList):=by show _=_;rw[HR.out,HDA.out,List.dropWhile_cons,if_neg hbl]
    have HE:Hid (r.data.toList≠[]):=by show _≠_;rw[HR.out,HDA.out];simp
    rw[← hr] at LP
    have HRR:Hid (r=s.extract a s.size):=hr
    have HS:Hid (r.size=s.size - a):=hrs
    clear hbl hbl2 hr hrs
    by_cases hcom:Lx.isCom r.data.toList=true
    ·have LPC:Lx.lexS r.data.toList=Lx.lexS (Lx.afterLine r.data.toList):=Lx.lexS_com HB.out HE.out hcom
     have HLC:Hid (Lx.lexS r.data.toList=Lx.lexS (r.data.toList.dropWhile (· != 10))):=by show _=_;rw[LPC,Lx.lexS_after]
     have hc:=hcom
     rw[HR.out,com_iff s a hlt] at hc
     obtain⟨g1,g2,g3⟩:=hc
     have g1':(a:Int)+1<(s.size:Int):=by omega
     have g2':((((s[a]).toNat:Nat):Int)==45)=true:=by rw[is45,g2];rfl
     have g3':((((s[a+1]).toNat:Nat):Int)==45)=true:=by rw[is45,g3];rfl
     obtain⟨L,hL⟩ : ∃ L,L=(r.data.toList.takeWhile (· != 10)).length:=⟨_,rfl⟩
     obtain⟨HY0,HN0⟩:=Lx.row_facts (· != 10) r.data.toList
     rw[← hL,HR.out] at HY0 HN0
     have hLs:a+L≤s.size:=by
      have h5:L≤r.size:=by rw[hL,← size_toList];exact (List.takeWhile_prefix _).length_le
      have:=HS.out;omega
     have HYES:Hid (∀ j (h:j<s.size),a≤j→j<a+L→((((s[j]).toNat:Nat):Int) != 10)=true):=fun j h h5 h6=>by
      have:=HY0 (j - a) s[j] (by omega) (by rw[List.getElem?_drop,show a+(j - a)=j by omega];exact byte_at s j h)
      rw[is10];simpa using this
     have HNO:Hid (∀ (h:a+L<s.size),((((s[a+L]).toNat:Nat):Int) != 10)=false):=fun h=>by
      have:=HN0 s[a+L] (by rw[List.getElem?_drop];exact byte_at s _ h)
      rw[is10];simpa using this
     have hLpos:0<L:=by
      rcases Nat.eq_zero_or_pos L with h | h
      ·have:=HNO.out (by omega)
       rw[is10] at this
       simp only[h,Nat.add_zero,g2] at this
       exact absurd this (by decide)
      ·exact h
     have HLP:Hid (LexLp s w u4 (s.extract (a+L) s.size) done wr):=LP.step (Below.refl _ _) (by rw[ext_size _ _ hLs,HS.out];omega) (by rw[HLC.out,extract_drop,← Lx.drop_row,← hL,HR.out,List.drop_drop])
     clear LPC hcom g2 g3 hL HY0 HN0 LP
     obtain⟨E,hE⟩ : ∃ E,E=a+L:=⟨_,rfl⟩
     rw[← hE] at hLs
     have HYE:Hid (∀ j (h:j<s.size),a≤j→j<E→((((s[j]).toNat:Nat):Int) != 10)=true):=fun j h h5 h6=>HYES.out j h h5 (by omega)
     have HNE:Hid (∀ (h:E<s.size),((((s[E]).toNat:Nat):Int) != 10)=false):=by subst hE;exact HNO.out
     have HLE:Hid (LexLp s w u4 (s.extract E s.size) done wr):=by show LexLp s w u4 (s.extract E s.size) done wr;rw[hE];exact HLP.out
     have haE:a<E:=by omega
     clear HYES HNO HLP hE hLpos
     go_wp2_with fail
     obtain⟨wo,rfl⟩ : ∃ wo:World,wo=wr:=⟨_,rfl⟩
     go_loopw [5] (fun i wr=>∃ j:Nat,a≤j∧j≤E∧i=.int .i64 j∧wr=wo) (fun i _=>E - (intOf i).toNat)
     case atStart=>exact⟨a,Nat.le_refl _,by omega,rfl,rfl⟩
     case round =>
      obtain⟨j,hj1,hj2,rfl,hW⟩:=hrel
      subst hW
      by_cases hjl:j<E
      ·have hjs:j<s.size:=by omega
       have hj3:(j:Int)<(s.size:Int):=by omega
       have hy:=HYE.out j hjs hj1 hjl
       go_wp2_with fail
       go_roundw
       case rel=>exact⟨j+1,by omega,by omega,by go_num,by trivial⟩
       case measure=>simp[intOf];omega
      ·have hje:j=E:=by omega
       subst hje
       by_cases hend:j<s.size
       ·have hj3:(j:Int)<(s.size:Int):=by omega
        have hn:=HNE.out hend
        go_wp2_with fail
        go_roundw
        case rel=>exact⟨j,done,hLs,rfl,HLE.out⟩
        case measure=>simp[intOf];omega
       ·have hj3:¬ (j:Int)<(s.size:Int):=by omega
        go_wp2_with fail
        go_roundw
        case rel=>exact⟨j,done,hLs,rfl,HLE.out⟩
        case measure=>simp[intOf];omega
    ·have hcom2:Lx.isCom r.data.toList=false:=by simpa using hcom
     have hcs:=hcom
     rw[HR.out,com_iff s a hlt] at hcs
     have hor:(¬ (a:Int)+1<(s.size:Int))∨((a:Int)+1<(s.size:Int)∧((((s[a]).toNat:Nat):Int)==45)=false)∨∃ h:a+1<s.size,(a:Int)+1<(s.size:Int)∧((((s[a]).toNat:Nat):Int)==45)=true∧((((s[a+1]).toNat:Nat):Int)==45)=false:=by
      by_cases g1:a+1<s.size
      ·by_cases g2:s[a]=45
       ·have g3:¬ s[a+1]=45:=fun g3=>hcs ⟨g1,g2,g3⟩
        exact Or.inr (Or.inr ⟨g1,by omega,by rw[is45,g2];rfl,by rw[is45];simpa using g3⟩)
       ·exact Or.inr (Or.inl ⟨by omega,by rw[is45];simpa using g2⟩)
      ·exact Or.inl (by omega)
     have HC:Hid (Lx.isCom r.data.toList=false):=hcom2
     clear hcom hcom2 hcs
     have hrsz:r.size≤100000:=by have:=HS.out;omega
     have hrpos:0<r.size:=by have:=HS.out;omega
     rcases hor with g1 | ⟨g1,g2⟩ | ⟨g0,g1,g2,g3⟩
     all_goals
      go_wp2_with fail
      rw[← HRR.out]
      refine (rone_any r a hrsz hrpos wr).mono ?_
      rintro e w3 ⟨k,er,t,p',rfl,hb3,hor⟩
      have LP3:=LP.step hb3 (Nat.le_refl _) rfl
      clear LP hb3
      rcases hor with ⟨rfl,hp,hf⟩ | ⟨hne,hf⟩
      ·have hp2:=hp.symm
       subst hp2
       have hpr:=(Lx.first_tok hf).1
       have htn:t.data.toList≠[]:=(Lx.first_tok hf).2.resolve_right HE.out
       have htl:t.size≤r.size:=by rw[size_of_list,size_of_list];exact hpr.length_le
       have HT:Hid (Lx.lexS r.data.toList=_):=Lx.lexS_tok HB.out HE.out HC.out hf
       have HN:Hid (t.data.toList≠[]):=htn
       have hfw:=LP3.few
       have hlb:=LP3.below.size
       have hnewA:=heap_alloc_new w3 (.cells #[.int .i64 k,.string t,.int .i64 a] 127)
       have hnewB:=heap_alloc_new (w3.alloc (.cells #[.int .i64 k,.string t,.int .i64 a] 127)) (.cells #[.int .i64 k,.string t,.int .i64 a] 127)
       have hA2:((w3.alloc (.cells #[.int .i64 k,.string t,.int .i64 a] 127)).alloc (.cells #[.int .i64 k,.string t,.int .i64 a] 127)).heap[w3.heap.size]?=some (.cells #[.int .i64 k,.string t,.int .i64 a] 127):=(Below.heap_alloc _ _ _ (by simp)).trans hnewA
       rw[World.size_alloc] at hnewB
       have LPA:=LP3.step ((Below.refl _ _).alloc (Nat.le_refl _) (.cells #[.int .i64 k,.string t,.int .i64 a] 127)) (Nat.le_refl _) rfl
       have HNA:Hid (_∧_):=⟨hnewB,hA2⟩
       clear hpr htn hf hnewA hnewB hA2
       go_wp2_with (at_builtin;refine wpList_app rowTok rfl _ _ rfl (w.heap.size+1) _ _ _ rfl (LPA.own.alloc _) ⟨w3.heap.size+1,0,none⟩ 1 [.int .i64 k,.string t,.int .i64 a] rfl rfl (World.news_of_block HNA.out.1) (by simp[Value.oneCell']) (by omega) (by simp;omega) (w3.heap.size+2) (by simp) ?_)
       intro g cap w4 hown hgrow hat hlt hcap
       have hlow:∀ q,u4.ownBlock=some q→w.heap.size+1≤q∧q<w3.heap.size:=LP3.own.lt
       have hA4:=(hgrow.block w3.heap.size (by simp;omega) (fun q=>by have:=(hlow _ q.symm).2;omega)).trans HNA.out.2
       have hc1:w4.cell? ⟨w3.heap.size,1,none⟩=some (.string t):=by simp[World.cell?,hA4]
       have LP4:=LPA.push (u':=s.extract (a+t.size) s.size) (d:=a) (by have:=HS.out;omega) HN.out htl HT.out (by rw[extract_drop,HR.out,List.drop_drop,size_toList]) hown hgrow
       clear hown hgrow hat LP3 LPA hfw hlb hlow HNA hA4
       have hpos:0<t.size:=by rw[size_of_list];exact List.length_pos_iff.2 HN.out
       have hts:a+t.size≤s.size:=by have:=HS.out;omega
       generalize w3.heap.size=tb at hc1 ⊢
       go_wp2_with fail
       go_roundw
       case rel=>exact⟨a+t.size,_,hts,by go_num,LP4⟩
       case measure=>simp[intOf];omega
      ·have hne2:((er:Int) != 0)=true:=by rw[bne_iff_ne];omega
       obtain⟨c0,c1,f0,f1⟩:=two_cells (show (w3.alloc (.cells #[.int .i64 k,.string t,.int .i64 p'] 127)).heap[w.heap.size]?=_ from (Below.heap_alloc _ _ _ (Array.getElem?_eq_some_iff.1 LP3.ret).1).trans LP3.ret)
       have HN:Hid (er≠0):=hne
       have HT:Hid (Lx.lexS r.data.toList=_):=Lx.lexS_err HB.out HE.out HC.out hf
       have hB4:=LP3.below.alloc LP3.below.size (.cells #[.int .i64 k,.string t,.int .i64 p'] 127)
       have heq:=LP3.eq
       have HQ:Hid ((Lx.lexS s.data.toList).2=some (er,r.data.toList.length)):=by show _=_;rw[heq,HT.out]
       clear hne hf heq LP3
       go_wp2_with fail
       refine bodyPost_ret (v:=.tuple #[.slice none 0 0,.agg #[.int .i64 er,.int .i64 a]]) (by simp[results,Tryz.results68,go_sem,c0,c1]) rfl ?_
       exact⟨_,_,_,rfl,(hB4.setCell (Nat.le_refl _) _).setCell (Nat.le_refl _) _,Or.inr ⟨er,_,HN.out,rfl,by rw[size_toList];have:=HS.out;omega,HQ.out,rfl⟩⟩
  ·have hea:a=s.size:=by omega
   subst hea
   obtain⟨c0,c1,f0,f1⟩:=two_cells LP.ret
   have hq:Lx.lexS s.data.toList=(done,none):=by
    rw[LP.eq,extract_drop]
    have:s.data.toList.drop s.size=[]:=by rw[List.drop_eq_nil_iff,size_toList];omega
    rw[this,Lx.lexS_nil];simp
   have HQ:Hid (_=_):=hq
   clear hq
   go_wp2_with fail
   refine bodyPost_ret (v:=.tuple #[u4,.agg #[.int .i64 0,.int .i64 0]]) (by simp[results,Tryz.results68,go_sem,c0,c1]) rfl ?_
   refine⟨_,_,_,rfl,(LP.below.setCell (Nat.le_refl _) _).setCell (Nat.le_refl _) _,Or.inl ⟨rfl,rfl,by rw[HQ.out],?_⟩⟩
   rw[HQ.out]
   exact (ownsRow_setCell_below (ownsRow_setCell_below LP.own (by simp) _) (by simp) _).mono (by omega)
end Go.Proofs.YtmacepicoandkaaGreatDoor
namespace Go.Proofs.YtmacepicoandkaaGreatDoor
open Go.RowKit Go.Shelf Tx Px
def Rd (rb:Nat) (tv:Value) (w:World) (I o c p:Int):Prop:=Blk w rb #[tv,.int .i64 I,.int .i64 o,.int .i64 c,.int .i64 p] 154
section
variable {W W' : World} {rb : Nat} {tv : Value} {I o c p : Int}
theorem Rd.cells (h:Rd rb tv W I o c p):W.cell? ⟨rb,0,none⟩=some tv∧W.cell? ⟨rb,1,none⟩=some (.int .i64 I)∧W.cell? ⟨rb,2,none⟩=some (.int .i64 o)∧W.cell? ⟨rb,3,none⟩=some (.int .i64 c)∧W.cell? ⟨rb,4,none⟩=some (.int .i64 p):=by
 unfold Rd Blk at h
 refine⟨?_,?_,?_,?_,?_⟩ <;> simp[World.cell?,h]
theorem Rd.free (h:Rd rb tv W I o c p):W.frozen? ⟨rb,0,none⟩=false∧W.frozen? ⟨rb,1,none⟩=false∧W.frozen? ⟨rb,2,none⟩=false∧W.frozen? ⟨rb,3,none⟩=false∧W.frozen? ⟨rb,4,none⟩=false:=by
 unfold Rd Blk at h
 refine⟨?_,?_,?_,?_,?_⟩ <;> simp[World.frozen?,h]
theorem Rd.lt (h:Rd rb tv W I o c p):rb<W.heap.size:=Blk.lt h
theorem Rd.setI (h:Rd rb tv W I o c p) (y:Int):Rd rb tv (W.setCell ⟨rb,1,none⟩ (.int .i64 y)) y o c p:=by
 have:=Blk.setAt h 1 (.int .i64 y);unfold Rd;simpa using this
theorem Rd.setO (h:Rd rb tv W I o c p) (y:Int):Rd rb tv (W.setCell ⟨rb,2,none⟩ (.int .i64 y)) I y c p:=by
 have:=Blk.setAt h 2 (.int .i64 y);unfold Rd;simpa using this
theorem Rd.setC (h:Rd rb tv W I o c p) (y:Int):Rd rb tv (W.setCell ⟨rb,3,none⟩ (.int .i64 y)) I o y p:=by
 have:=Blk.setAt h 3 (.int .i64 y);unfold Rd;simpa using this
theorem Rd.setP (h:Rd rb tv W I o c p) (y:Int):Rd rb tv (W.setCell ⟨rb,4,none⟩ (.int .i64 y)) I o c y:=by
 have:=Blk.setAt h 4 (.int .i64 y);unfold Rd;simpa using this
theorem Rd.below (h:Rd rb tv W I o c p) (hb:Below W.heap.size W W'):Rd rb tv W' I o c p:=Blk.below h hb
end
section
variable {L : List Tok} {a : Option Addr} {cc rb : Nat} {w0 : World}
set_option maxHeartbeats 1000000 in
theorem r4At_any (EV:Hid (EnvOk w0 rb a cc L)) (i:Nat) (hi:i≤200000) (w:World) (hB:Al rb w0 w) :
  Calls Tryz.prog 91 #[.slice a L.length cc,.int .i64 i] w fun e w'=>e=.returned (.int .i64 (atP L i))∧w'=w:=by
 have hi0:¬ ((i:Int)<0):=by omega
 have hcap:=EV.out.cap
 by_cases h:i<L.length
 ·obtain⟨x,hx⟩ : ∃ x,L[i]?=some x:=⟨_,List.getElem?_eq_getElem h⟩
  have e:=atP_lt hx
  rw[e]
  obtain⟨b,q,rfl,-,-,c2⟩:=EV.out.tok w hB i x hx
  have h2:(i:Int)<(L.length:Int):=by omega
  clear hB hx e EV
  go_enter Tryz.func91,Tryz.ntmps91
  go_wp2_with fail
  go_ret
  exact⟨rfl,rfl⟩
 ·rw[atP_ge (by omega)]
  have h2:(L.length:Int)≤(i:Int):=by omega
  clear hB EV
  go_enter Tryz.func91,Tryz.ntmps91
  go_wp2_with fail
  go_ret
  exact⟨rfl,rfl⟩
set_option maxRecDepth 100000 in
set_option maxHeartbeats 1000000 in
theorem r4fail_yes (EV:Hid (EnvOk w0 rb a cc L)) (I:Nat) (hI:I≤200000) (o p k:Int) (w:World) (hB:Al rb w0 w) (hR:Rd rb (.slice a L.length cc) w I o 0 p) :
  Calls Tryz.prog 141 #[.pointer (some ⟨rb,0,none⟩),.int .i64 k] w fun e w'=>e=.returned (.slice none 0 0)∧Rd rb (.slice a L.length cc) w' I o k (atP L I)∧Al rb w w':=by
 obtain⟨c0,c1,c2,c3,c4⟩:=hR.cells
 obtain⟨f0,f1,f2,f3,f4⟩:=hR.free
 have hlt:=hR.lt
 have hat:=r4At_any EV I hI w.drew hB.drew
 have HR:Hid (Rd rb (.slice a L.length cc) w.drew I o 0 p):=hR
 clear hR hB EV
 go_enter Tryz.func141,Tryz.ntmps141
 go_wp2_with fail
 go_still_tail 12,(by kernel_rfl)
 still_call hat
 repeat still_step
 try refine wpStill_nil ?_
 clear hat
 change wpList _ _ _ _ _ w.drew
 have hb2:Al rb w w.drew:=(Al.refl _ _).drew
 have f3':w.drew.frozen? ⟨rb,3,none⟩=false:=f3
 have f4':w.drew.frozen? ⟨rb,4,none⟩=false:=f4
 have c3':w.drew.cell? ⟨rb,3,none⟩=some (.int .i64 0):=c3
 have c4':w.drew.cell? ⟨rb,4,none⟩=some (.int .i64 p):=c4
 clear c0 c1 c2 c3 c4 f0 f1 f2 f3 f4
 generalize w.drew=W at *
 go_wp2_with fail
 go_ret
 exact⟨rfl,((HR.out.setC k).setP _),(hb2.set _ _).set _ _⟩
set_option maxHeartbeats 1000000 in
theorem r4fail_no (I:Nat) (o c p k:Int) (hc:c≠0) (tv:Value) (w:World) (hR:Rd rb tv w I o c p) :
  Calls Tryz.prog 141 #[.pointer (some ⟨rb,0,none⟩),.int .i64 k] w fun e w'=>e=.returned (.slice none 0 0)∧w'=w:=by
 obtain⟨c0,c1,c2,c3,c4⟩:=hR.cells
 have e0:(c==0)=false:=by simp[hc]
 clear hR
 go_enter Tryz.func141,Tryz.ntmps141
 go_wp2_with fail
 go_ret
 exact⟨rfl,rfl⟩
def isB (c:Int) (L:List Tok) (I:Nat) (s:ByteArray):Bool:=decide (c=0)&&isT L I s
set_option maxRecDepth 100000 in
set_option maxHeartbeats 2000000 in
theorem r4is_any (EV:Hid (EnvOk w0 rb a cc L)) (I:Nat) (hI:I≤200000) (o c p:Int) (s:ByteArray) (w:World) (hB:Al rb w0 w) (hR:Rd rb (.slice a L.length cc) w I o c p) :
  Calls Tryz.prog 117 #[.pointer (some ⟨rb,0,none⟩),.string s] w fun e w'=>e=.returned (.bool (isB c L I s))∧Below w.heap.size w w':=by
 obtain⟨c0,c1,c2,c3,c4⟩:=hR.cells
 have hcap:=EV.out.cap
 have hi1:(0:Int)≤(I:Int):=by omega
 by_cases hc:c=0
 ·subst hc
  by_cases h:I<L.length
  ·obtain⟨x,hx⟩ : ∃ x,L[I]?=some x:=⟨_,List.getElem?_eq_getElem h⟩
   obtain⟨b,q,rfl,d0,d1,d2⟩:=EV.out.tok w hB I x hx
   have h2:(I:Int)<(L.length:Int):=by omega
   obtain⟨se,hse⟩ : ∃ se,(x.t.toList==s.toList)=se:=⟨_,rfl⟩
   have HF:Hid (isB 0 L I s=((((x.k:Int)==4) || ((x.k:Int)==3))&&se)):=by
    show _=_
    rw[← hse,bytes_eq]
    unfold isB
    by_cases hk:x.k=3∨x.k=4
    ·rw[isT_text hx hk]
     have e:(((x.k:Int)==4) || ((x.k:Int)==3))=true:=by simp;omega
     rw[e];rfl
    ·rw[isT_kind hx (by omega)]
     have e:(((x.k:Int)==4) || ((x.k:Int)==3))=false:=by simp;omega
     rw[e];rfl
   obtain⟨k4,hk4⟩ : ∃ k4,((x.k:Int)==4)=k4:=⟨_,rfl⟩
   obtain⟨k3,hk3⟩ : ∃ k3,((x.k:Int)==3)=k3:=⟨_,rfl⟩
   rw[hk4,hk3] at HF
   clear hB hx EV hR
   go_enter Tryz.func117,Tryz.ntmps117
   go_wp2_with fail
   go_quiet (fail)
   go_wp2_with fail
   generalize hW:w.drewN nq=W
   have c0':W.cell? ⟨rb,0,none⟩=some (.slice (some ⟨b,q,none⟩) L.length cc):=by rw[← hW];exact c0
   have c1':W.cell? ⟨rb,1,none⟩=some (.int .i64 I):=by rw[← hW];exact c1
   have d0':W.cell? ⟨b,q+I * 3,none⟩=some (.int .i64 x.k):=by rw[← hW];exact d0
   have d1':W.cell? ⟨b,q+I * 3+1,none⟩=some (.string x.t):=by rw[← hW];exact d1
   have d2':W.cell? ⟨b,q+I * 3+2,none⟩=some (.int .i64 x.p):=by rw[← hW];exact d2
   have HB:Hid (Below w.heap.size w W):=by show Below _ _ _;rw[← hW];exact below_drawn (Below.refl _ _) _
   clear c0 c1 c2 c3 c4 d0 d1 d2 hW
   have e1:rb≠W.heap.size:=(World.new_ne W ⟨rb,0,none⟩ c0').symm
   have e2:b≠W.heap.size:=(World.new_ne W ⟨b,q+I * 3,none⟩ d0').symm
   have hbn:Below W.heap.size W (W.alloc (.cells #[.int .i64 0,.string ⟨#[]⟩,.int .i64 0] 127)):=(Below.refl _ _).alloc (Nat.le_refl _) _
   have l1:=World.block_lt_of_cell? W _ c0'
   have l2:=World.block_lt_of_cell? W _ d0'
   have n0:=(hbn.cell (p:=⟨rb,0,none⟩) l1).trans c0'
   have n1:=(hbn.cell (p:=⟨rb,1,none⟩) l1).trans c1'
   have n2:=(hbn.cell (p:=⟨b,q+I * 3,none⟩) l2).trans d0'
   have n3:=(hbn.cell (p:=⟨b,q+I * 3+1,none⟩) l2).trans d1'
   have n4:=(hbn.cell (p:=⟨b,q+I * 3+2,none⟩) l2).trans d2'
   clear hbn
   go_region
   all_goals
    go_wp2_with fail
    all_goals
     go_ret
     exact⟨ret_bool (by rw[HF.out];simp_all),(HB.out.alloc HB.out.size _).drew⟩
  ·have HF:Hid (isB 0 L I s=false):=by
    show _=_
    unfold isB;rw[isT_ge (by omega)];rfl
   have h2:(L.length:Int)≤(I:Int):=by omega
   clear hB EV hR h
   go_enter Tryz.func117,Tryz.ntmps117
   go_wp2_with fail
   go_quiet (fail)
   go_wp2_with fail
   go_ret
   exact⟨ret_bool HF.out.symm,below_drawn (Below.refl _ _) _⟩
 ·have HF:Hid (isB c L I s=false):=by
   show _=_
   unfold isB;rw[decide_eq_false hc];rfl
  have e0:(c==0)=false:=by simp[hc]
  have e1:(c != 0)=true:=by simp[hc]
  clear hB EV hR hc
  go_enter Tryz.func117,Tryz.ntmps117
  go_wp2_with fail
  go_quiet (fail)
  go_wp2_with fail
  go_ret
  exact⟨ret_bool HF.out.symm,below_drawn (Below.refl _ _) _⟩
end
end Go.Proofs.YtmacepicoandkaaGreatDoor
namespace Go.Proofs.YtmacepicoandkaaGreatDoor
open Go.RowKit Go.Shelf Tx Px
theorem isB_yes {L:List Tok} {I:Nat} {s:ByteArray} (h:isT L I s=true):isB 0 L I s=true:=by unfold isB;rw[h];rfl
theorem isB_no {c:Int} {L:List Tok} {I:Nat} {s:ByteArray} (h:isT L I s=false∨c≠0):isB c L I s=false:=by
 unfold isB
 rcases h with h | h
 ·rw[h,Bool.and_false]
 ·rw[decide_eq_false h];rfl
section
variable {L : List Tok} {a : Option Addr} {cc rb : Nat} {w0 : World}
set_option maxHeartbeats 1000000 in
theorem r4is_yes (EV:Hid (EnvOk w0 rb a cc L)) (I:Nat) (hI:I≤200000) (o p:Int) (s:ByteArray) (hs:isT L I s=true) (w:World) (hB:Al rb w0 w) (hR:Rd rb (.slice a L.length cc) w I o 0 p) :
  Calls Tryz.prog 117 #[.pointer (some ⟨rb,0,none⟩),.string s] w fun e w'=>e=.returned (.bool true)∧Below w.heap.size w w':=by
 have:=r4is_any EV I hI o 0 p s w hB hR
 rwa [isB_yes hs] at this
theorem r4is_no (EV:Hid (EnvOk w0 rb a cc L)) (I:Nat) (hI:I≤200000) (o c p:Int) (s:ByteArray) (hs:isT L I s=false∨c≠0) (w:World) (hB:Al rb w0 w) (hR:Rd rb (.slice a L.length cc) w I o c p) :
  Calls Tryz.prog 117 #[.pointer (some ⟨rb,0,none⟩),.string s] w fun e w'=>e=.returned (.bool false)∧Below w.heap.size w w':=by
 have:=r4is_any EV I hI o c p s w hB hR
 rwa [isB_no hs] at this
set_option maxHeartbeats 1000000 in
theorem r4take_yes (EV:Hid (EnvOk w0 rb a cc L)) (I:Nat) (hI:I≤200000) (o p:Int) (s:ByteArray) (hs:isT L I s=true) (w:World) (hB:Al rb w0 w) (hR:Rd rb (.slice a L.length cc) w I o 0 p) :
  Calls Tryz.prog 104 #[.pointer (some ⟨rb,0,none⟩),.string s] w fun e w'=>e=.returned (.bool true)∧Rd rb (.slice a L.length cc) w' ((I:Int)+1) o 0 p∧Al rb w w':=by
 have hh:=r4is_yes EV I hI o p s hs w hB hR
 have HR:=Lib.hid hR
 clear hB hR EV hs
 go_enter Tryz.func104,Tryz.ntmps104
 go_wp2_with fail
 refine hh.mono ?_
 rintro r w2 ⟨rfl,hb⟩
 have hR2:=HR.out.below hb
 have HA:Hid (Al rb w w2):=Al.of hb
 obtain⟨c0,c1,c2,c3,c4⟩:=hR2.cells
 obtain⟨f0,f1,f2,f3,f4⟩:=hR2.free
 have HR2:=Lib.hid hR2
 clear hh hb hR2 HR
 go_wp2_with fail
 go_ret
 exact⟨rfl,HR2.out.setI _,HA.out.set _ _⟩
set_option maxHeartbeats 1000000 in
theorem r4take_no (EV:Hid (EnvOk w0 rb a cc L)) (I:Nat) (hI:I≤200000) (o c p:Int) (s:ByteArray) (hn:isT L I s=false∨c≠0) (w:World) (hB:Al rb w0 w) (hR:Rd rb (.slice a L.length cc) w I o c p) :
  Calls Tryz.prog 104 #[.pointer (some ⟨rb,0,none⟩),.string s] w fun e w'=>e=.returned (.bool false)∧Below w.heap.size w w':=by
 have hh:=r4is_no EV I hI o c p s hn w hB hR
 clear hB hR EV hn
 go_enter Tryz.func104,Tryz.ntmps104
 go_wp2_with fail
 refine hh.mono ?_
 rintro r w2 ⟨rfl,hb⟩
 clear hh
 go_wp2_with fail
 go_ret
 exact⟨rfl,hb⟩
set_option maxHeartbeats 1000000 in
theorem r4need_yes (EV:Hid (EnvOk w0 rb a cc L)) (I:Nat) (hI:I≤200000) (o p:Int) (s:ByteArray) (hs:isT L I s=true) (w:World) (hB:Al rb w0 w) (hR:Rd rb (.slice a L.length cc) w I o 0 p) :
  Calls Tryz.prog 146 #[.pointer (some ⟨rb,0,none⟩),.string s] w fun e w'=>e=.returned (.tuple #[])∧Rd rb (.slice a L.length cc) w' ((I:Int)+1) o 0 p∧Al rb w w':=by
 have hh:=r4take_yes EV I hI o p s hs w hB hR
 clear hB hR EV hs
 go_enter Tryz.func146,Tryz.ntmps146
 go_wp2_with fail
 refine hh.mono ?_
 rintro r w1 ⟨rfl,hR,hA⟩
 clear hh
 go_wp2_with fail
 first | go_end0 | (refine bodyPost_ret (results_none rfl _ _ _) rfl ?_)
 exact⟨rfl,hR,hA⟩
set_option maxHeartbeats 1000000 in
theorem r4need_no (EV:Hid (EnvOk w0 rb a cc L)) (I:Nat) (hI:I≤200000) (o p:Int) (s:ByteArray) (hn:isT L I s=false) (w:World) (hB:Al rb w0 w) (hR:Rd rb (.slice a L.length cc) w I o 0 p) :
  Calls Tryz.prog 146 #[.pointer (some ⟨rb,0,none⟩),.string s] w fun e w'=>e=.returned (.tuple #[])∧Rd rb (.slice a L.length cc) w' I o 5 (atP L I)∧Al rb w w':=by
 have hh:=r4take_no EV I hI o 0 p s (Or.inl hn) w hB hR
 have hf:Hid (∀ w1,Below w.heap.size w w1→_):=fun w1 (h:Below w.heap.size w w1)=>r4fail_yes EV I hI o p 5 w1 (hB.then h) (hR.below h)
 clear hB hR EV hn
 go_enter Tryz.func146,Tryz.ntmps146
 go_wp2_with fail
 refine hh.mono ?_
 rintro r w2 ⟨rfl,hb⟩
 clear hh
 go_wp2_with fail
 refine (hf.out w2 hb).mono ?_
 rintro r w3 ⟨rfl,hR,hA⟩
 have HA:Hid (Al rb w w3):=(Al.of hb).next hA
 clear hb hA hf
 go_wp2_with fail
 first | go_end0 | (refine bodyPost_ret (results_none rfl _ _ _) rfl ?_)
 exact⟨rfl,hR,HA.out⟩
set_option maxHeartbeats 1000000 in
theorem r4need_fault (EV:Hid (EnvOk w0 rb a cc L)) (I:Nat) (hI:I≤200000) (o c p:Int) (s:ByteArray) (hc:c≠0) (w:World) (hB:Al rb w0 w) (hR:Rd rb (.slice a L.length cc) w I o c p) :
  Calls Tryz.prog 146 #[.pointer (some ⟨rb,0,none⟩),.string s] w fun e w'=>e=.returned (.tuple #[])∧Below w.heap.size w w':=by
 have hh:=r4take_no EV I hI o c p s (Or.inr hc) w hB hR
 have hf:Hid (∀ w1,Below w.heap.size w w1→_):=fun w1 (h:Below w.heap.size w w1)=>r4fail_no I o c p 5 hc _ w1 (hR.below h)
 clear hB hR EV hc
 go_enter Tryz.func146,Tryz.ntmps146
 go_wp2_with fail
 refine hh.mono ?_
 rintro r w2 ⟨rfl,hb⟩
 clear hh
 go_wp2_with fail
 refine (hf.out w2 hb).mono ?_
 rintro r w3 ⟨rfl,rfl⟩
 have HB:=Lib.hid hb
 clear hb hf
 go_wp2_with fail
 first | go_end0 | (refine bodyPost_ret (results_none rfl _ _ _) rfl ?_)
 exact⟨rfl,HB.out⟩
end
set_option maxHeartbeats 1000000 in
theorem r4join_no {rb:Nat} (I o c p op:Int) (hc:c≠0) (tv u v:Value) (w:World) (hR:Rd rb tv w I o c p) :
  Calls Tryz.prog 105 #[.pointer (some ⟨rb,0,none⟩),.int .i64 op,u,v] w fun r w'=>r=.returned (.slice none 0 0)∧w'=w:=by
 obtain⟨c0,c1,c2,c3,c4⟩:=hR.cells
 have e0:(c==0)=false:=by simp[hc]
 have e1:(c != 0)=true:=by simp[hc]
 clear hR hc
 go_enter Tryz.func105,Tryz.ntmps105
 go_wp2_with fail
 go_ret
 exact⟨rfl,rfl⟩
set_option maxHeartbeats 1000000 in
theorem r4join_ok {rb:Nat} (I o p:Int) (tv:Value) (op:Int) (A B:Fo) (u v:Value) (w:World) (hR:Rd rb tv w I o 0 p) (hu:IsE w u (A.flat 0)) (hv:IsE w v (B.flat 0)) (hA:A.count=1) (hB:B.count=1) (hz:A.size+B.size≤400000) (hop:6≤op∧op≤20) :
  Calls Tryz.prog 105 #[.pointer (some ⟨rb,0,none⟩),.int .i64 op,u,v] w fun r w'=>∃ v',r=.returned v'∧OwnE w.heap.size w' v' ((node op 0 noS (A.app B)).flat 0)∧Below w.heap.size w w':=by
 obtain⟨c0,c1,c2,c3,c4⟩:=hR.cells
 obtain⟨ua,uc,rfl,-,-⟩:=hu.form
 obtain⟨va,vc,rfl,-,-⟩:=hv.form
 have nb:=(Below.refl w.heap.size w).alloc (Nat.le_refl _) (.cells #[.slice ua (A.flat 0).length uc,.slice va (B.flat 0).length vc] 54)
 have hj:=rJoin_any op 0 noS [A,B] (.slice (some ⟨w.heap.size,0,none⟩) 2 2) (w.alloc (.cells #[.slice ua (A.flat 0).length uc,.slice va (B.flat 0).length vc] 54))
  (sg_two (Blk.new _ _ _) (Sl.below hu nb) (Sl.below hv nb)) (fun F hF=>by simp at hF;rcases hF with rfl | rfl;exact hA;exact hB) (by simp[cat,Fo.size_app,Fo.size];omega) (by omega) (fun _=>by
   rw[kids_leaf,if_neg (by omega),if_neg (by omega),if_neg (by omega),if_pos (by omega)];rfl)
 rw[join_two op 0 A B (by omega)] at hj
 have HB:=Lib.hid nb
 have HJ:=Lib.hid hj
 generalize (A.flat 0).length=la at *
 generalize (B.flat 0).length=lb at *
 clear hR hu hv hz hop hj nb hA hB
 go_enter Tryz.func105,Tryz.ntmps105
 go_wp2_with fail
 refine HJ.out.mono ?_
 rintro r w1 ⟨v',rfl,ho,hb⟩
 have HO:Hid (OwnE w.heap.size w1 v' ((node op 0 noS (A.app B)).flat 0)):=ho.mono HB.out.size
 have HBB:Hid (Below w.heap.size w w1):=HB.out.trans (hb.mono HB.out.size)
 clear hb ho HJ HB
 go_wp2_with fail
 go_ret
 exact⟨v',rfl,HO.out,HBB.out⟩
end Go.Proofs.YtmacepicoandkaaGreatDoor
