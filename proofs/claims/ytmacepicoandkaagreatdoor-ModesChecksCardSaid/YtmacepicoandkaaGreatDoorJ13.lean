/- The reference's lexer: names, numbers, signs, words. The reference's lexer: signs, words, one token. -/
import Derived.Deep.QuietTactic
import Derived.BigQuiet
import Derived.Lib.Hide
import Derived.Test.YtmacepicoandkaaGreatDoorJ1
import Derived.Test.YtmacepicoandkaaGreatDoorJ2
set_option linter.unusedVariables false
set_option linter.unusedSimpArgs false
namespace Go.Proofs.YtmacepicoandkaaGreatDoor
open Go.RowKit Go.Shelf
namespace Lx
theorem let_not_dig {c:UInt8} (h:isLet c=true):isDig c=false:=by
 simp only[isLet,isDig,Bool.or_eq_true,Bool.and_eq_true,decide_eq_true_eq,beq_iff_eq,UInt8.le_iff_toNat_le] at h ⊢
 rw[Bool.eq_false_iff]
 simp only[ne_eq,Bool.and_eq_true,decide_eq_true_eq]
 rcases h with h | rfl
 ·have h2:(97:UInt8).toNat=97:=rfl
  have h3:(57:UInt8).toNat=57:=rfl
  omega
 ·decide
theorem name_ref {t:Bs} (h1:t≠[]) (h2:t.length≤40) (h3:isLet (t.headD 0)=true) (h4:isWord t=false):isName t=t.all isPt:=by
 unfold isName
 have e1:t.isEmpty=false:=by cases t with | nil=>exact absurd rfl h1 | cons _ _=>rfl
 simp only[e1,decide_eq_true h2,let_not_dig h3,h4,Bool.not_false,Bool.true_and,Bool.and_true]
theorem name_ref_no {t:Bs} (h1:t≠[]) (h3:isLet (t.headD 0)=false):isName t=false:=by
 cases t with
 | nil=>exact absurd rfl h1
 | cons c r =>
  simp only[List.headD_cons] at h3
  unfold isName
  cases hd:isDig c <;> simp[isPt,h3,hd]
theorem all_take {p:UInt8→Bool} (l:Bs) (k:Nat) (c:UInt8) (h:l[k]?=some c):(l.take (k+1)).all p=((l.take k).all p&&p c):=by
 rw[List.take_add_one,h];simp[List.all_append]
theorem all_no {p:UInt8→Bool} (l:Bs) (k:Nat) (c:UInt8) (h:l[k]?=some c) (hp:p c=false):l.all p=false:=by
 rw[Bool.eq_false_iff];intro q
 have:=List.all_eq_true.1 q c (List.mem_of_getElem? h)
 rw[hp] at this;cases this
theorem val_snoc (l:Bs) (c:UInt8):val (l++[c])=10 * val l+(c.toNat - 48):=by simp[val,List.foldl_append]
theorem val_take (l:Bs) (k:Nat) (c:UInt8) (h:l[k]?=some c):val (l.take (k+1))=10 * val (l.take k)+(c.toNat - 48):=by
 rw[List.take_add_one,h];exact val_snoc _ _
theorem fold_ge:∀ (b:Bs) (n:Nat),n * 10 ^ b.length≤b.foldl (fun n c=>10 * n+(c.toNat - 48)) n
 | [],n=>by simp
 | c :: b,n=>by
  have:=fold_ge b (10 * n+(c.toNat - 48))
  rw[List.foldl_cons,List.length_cons,Nat.pow_succ]
  refine Nat.le_trans ?_ this
  rw[Nat.mul_comm (10 ^ _),← Nat.mul_assoc]
  exact Nat.mul_le_mul_right _ (by omega)
theorem val_mono (a b:Bs):val a≤val (a++b):=by
 unfold val
 rw[List.foldl_append]
 refine Nat.le_trans ?_ (fold_ge b _)
 exact Nat.le_mul_of_pos_right _ (Nat.pow_pos (by omega))
theorem val_take_le (l:Bs) (k:Nat):val (l.take k)≤val l:=by
 have:=val_mono (l.take k) (l.drop k)
 rwa [List.take_append_drop] at this
theorem val_big (c:UInt8) (r:Bs) (h:49≤c.toNat):10 ^ r.length≤val (c :: r):=by
 unfold val
 rw[List.foldl_cons]
 refine Nat.le_trans ?_ (fold_ge r _)
 exact Nat.le_mul_of_pos_left _ (by omega)
theorem tooBig_ref (d:Bs) (hd:d.all isDig=true) (hn:d≠[]):tooBig d=true↔(1<d.length∧d.headD 0=48)∨2147483647<val d:=by
 unfold tooBig
 simp only[Bool.or_eq_true,decide_eq_true_eq,Bool.and_eq_true,beq_iff_eq]
 constructor
 ·rintro ((h | h) | h)
  ·cases d with
   | nil=>exact absurd rfl hn
   | cons c r =>
    by_cases h48:c=48
    ·exact Or.inl ⟨by omega,by simpa using h48⟩
    ·refine Or.inr ?_
     simp only[List.all_cons,Bool.and_eq_true] at hd
     have hc:=dig_nat hd.1
     have h2:c.toNat≠48:=fun q=>h48 (by rw[← UInt8.toNat_inj];exact q)
     have h3:=val_big c r (by omega)
     have h4:10 ^ 10≤10 ^ r.length:=Nat.pow_le_pow_right (by omega) (by simp at h;omega)
     omega
  ·exact Or.inr h
  ·exact Or.inl h
 ·rintro (h | h)
  ·exact Or.inr h
  ·exact Or.inl (Or.inr h)
end Lx
theorem byte_at (s:ByteArray) (k:Nat) (h:k<s.size):s.data.toList[k]?=some s[k]:=by
 rw[List.getElem?_eq_getElem (by rw[size_toList];exact h)];rfl
set_option maxHeartbeats 1000000 in
theorem rIsName_any (s:ByteArray) (w:World) :
  Calls Tryz.prog 114 #[.string s] w fun e w'=>e=.returned (.bool (Lx.isName s.data.toList))∧Below w.heap.size w w':=by
 by_cases he:s.toList=[]
 ·have HF:Hid (Lx.isName s.data.toList=false):=by
   show _=_
   rw[← Lib.toList_data,he];rfl
  have he2:s.toList.isEmpty=true:=by simp[he]
  go_enter Tryz.func114,Tryz.ntmps114
  go_wp2_with fail
  go_ret
  exact⟨ret_bool HF.out.symm,Below.refl _ _⟩
 have he2:s.toList.isEmpty=false:=by simp[he]
 have HE:Hid (s.data.toList≠[]):=by rw[Lib.toList_data] at he;exact he
 have hpos:0<s.size:=by rw[← size_toList];exact List.length_pos_iff.2 HE.out
 by_cases hl:40<s.size
 ·have HF:Hid (Lx.isName s.data.toList=false):=by
   show _=_
   unfold Lx.isName
   rw[size_toList]
   have:decide (s.size≤40)=false:=by simp;omega
   rw[this];simp
  go_enter Tryz.func114,Tryz.ntmps114
  go_wp2_with fail
  go_ret
  exact⟨ret_bool HF.out.symm,Below.refl _ _⟩
 have hl2:s.size≤40:=by omega
 have hb0:=headD_byte s hpos
 obtain⟨b1,hb1⟩ : ∃ b,b=Lx.isLet (s.data.toList.headD 0):=⟨_,rfl⟩
 have c1:=rletter_any s[0] w
 rw[← hb0,← hb1] at c1
 have H1:Hid (Lx.isLet (s.data.toList.headD 0)=b1):=hb1.symm
 rw[hb0] at c1
 clear hb0 hb1 hl
 go_enter Tryz.func114,Tryz.ntmps114
 go_wp2_with fail
 refine c1.mono ?_
 rintro e w1 ⟨rfl,hW⟩
 subst hW
 clear c1
 cases b1
 ·go_wp2_with fail
  go_ret
  exact⟨ret_bool (Lx.name_ref_no HE.out H1.out).symm,Below.refl _ _⟩
 ·go_wp2_with fail
  refine (rIsWord_any s w1).mono ?_
  rintro e w2 ⟨rfl,hb2⟩
  obtain⟨b2,hb2'⟩ : ∃ b,b=Lx.isWord s.data.toList:=⟨_,rfl⟩
  rw[← hb2']
  have H2:Hid (Lx.isWord s.data.toList=b2):=hb2'.symm
  clear hb2'
  cases b2
  ·have HN:Hid (Lx.isName s.data.toList=s.data.toList.all Lx.isPt):=Lx.name_ref HE.out (by rw[size_toList];omega) H1.out H2.out
   go_wp2_with fail
   go_loopw [3] (fun i wr=>∃ k:Nat,k≤s.size∧i=.int .i64 k∧(s.data.toList.take k).all Lx.isPt=true∧wr=w2) (fun i _=>s.size - (intOf i).toNat)
   case atStart=>exact⟨0,Nat.zero_le _,rfl,rfl,rfl⟩
   case round =>
    obtain⟨k,hk,rfl,hall,hB⟩:=hrel
    subst hB
    by_cases hlt:k<s.size
    ·have HA:Hid ((s.data.toList.take k).all Lx.isPt=true):=hall
     have HK:Hid (s.data.toList[k]?=some s[k]):=byte_at s k hlt
     have hk2:(k:Int)<(s.size:Int):=by omega
     have c3:=rletter_any s[k] wr
     have c4:=rdigit_any s[k] wr
     obtain⟨b3,hb3⟩ : ∃ b,b=Lx.isLet s[k]:=⟨_,rfl⟩
     obtain⟨b4,hb4⟩ : ∃ b,b=Lx.isDig s[k]:=⟨_,rfl⟩
     rw[← hb3] at c3
     rw[← hb4] at c4
     have HP:Hid (Lx.isPt s[k]=(b3 || b4)):=by show _=_;unfold Lx.isPt;rw[hb3,hb4]
     clear hb3 hb4 hall
     cases b3
     ·go_wp2_with fail
      refine c3.mono ?_
      rintro e w5 ⟨rfl,hW⟩
      subst hW
      go_wp2_with fail
      refine c4.mono ?_
      rintro e w5 ⟨rfl,hW⟩
      subst hW
      clear c3 c4
      cases b4
      ·go_wp2_with fail
       go_ret
       exact⟨ret_bool (by rw[HN.out,Lx.all_no _ k _ HK.out (by rw[HP.out];rfl)]),hb2⟩
      ·have HF:Hid ((s.data.toList.take (k+1)).all Lx.isPt=true):=by show _=_;rw[Lx.all_take _ k _ HK.out,HA.out,HP.out];rfl
       go_wp2_with fail
       go_roundw
       case rel=>exact⟨k+1,by omega,by go_num,HF.out,by trivial⟩
       case measure=>simp[intOf];omega
     ·have HF:Hid ((s.data.toList.take (k+1)).all Lx.isPt=true):=by show _=_;rw[Lx.all_take _ k _ HK.out,HA.out,HP.out];rfl
      go_wp2_with fail
      refine c3.mono ?_
      rintro e w5 ⟨rfl,hW⟩
      subst hW
      clear c3 c4
      go_wp2_with fail
      go_roundw
      case rel=>exact⟨k+1,by omega,by go_num,HF.out,by trivial⟩
      case measure=>simp[intOf];omega
    ·have hke:k=s.size:=by omega
     have HF:Hid (Lx.isName s.data.toList=true):=by
      show _=_
      rw[HN.out,← hall,hke,List.take_of_length_le (by rw[size_toList];omega)]
     clear hall
     subst hke
     go_wp2_with fail
     go_ret
     exact⟨ret_bool HF.out.symm,hb2⟩
  ·have HF:Hid (Lx.isName s.data.toList=false):=by
    show _=_
    cases h:Lx.isName s.data.toList with
    | false=>rfl
    | true=>have:=Lx.name_not_word h;rw[H2.out] at this;cases this
   go_wp2_with fail
   go_ret
   exact⟨ret_bool HF.out.symm,hb2⟩
def ValPost (d:ByteArray) (w:World) (e:Ending) (w':World):Prop:=∃ n:Nat,e=.returned (.int .i64 n)∧(2147483647<n↔2147483647<Lx.val d.data.toList)∧(n≤2147483647→n=Lx.val d.data.toList)∧w'=w
set_option maxHeartbeats 1000000 in
theorem rValue_any (s:ByteArray) (hd:s.data.toList.all Lx.isDig=true) (hs:s.size≤100000) (w:World) :
  Calls Tryz.prog 99 #[.string s] w (ValPost s w):=by
 have HD:Hid (s.data.toList.all Lx.isDig=true):=hd
 clear hd
 go_enter Tryz.func99,Tryz.ntmps99
 go_wp2_with fail
 go_loopw [3,4] (fun n i wr=>∃ k:Nat,k≤s.size∧i=.int .i64 k∧n=.int .i64 (Lx.val (s.data.toList.take k):Nat)∧Lx.val (s.data.toList.take k)≤21474836479∧wr=w) (fun _ i _=>s.size - (intOf i).toNat)
 case atStart=>exact⟨0,Nat.zero_le _,rfl,rfl,by simp[Lx.val],rfl⟩
 case round =>
  obtain⟨k,hk,rfl,rfl,hle,hB⟩:=hrel
  subst hB
  have hmono:=Lx.val_take_le s.data.toList k
  obtain⟨n,hn⟩ : ∃ n,n=Lx.val (s.data.toList.take k):=⟨_,rfl⟩
  rw[← hn] at hle hmono ⊢
  have HNN:Hid (n=Lx.val (s.data.toList.take k)):=hn
  have HM:Hid (n≤Lx.val s.data.toList):=hmono
  clear hn hmono
  by_cases hlt:k<s.size
  ·by_cases hbig:n≤2147483647
   ·have HK:Hid (s.data.toList[k]?=some s[k]):=byte_at s k hlt
    have hdk:=Lx.dig_nat (List.all_eq_true.1 HD.out s[k] (List.mem_of_getElem? HK.out))
    have hk2:(k:Int)<(s.size:Int):=by omega
    have hn2:(n:Int)≤2147483647:=by omega
    have HV:Hid (Lx.val (s.data.toList.take (k+1))=10 * n+(s[k].toNat - 48)):=by show _=_;rw[Lx.val_take _ k _ HK.out,← HNN.out]
    obtain⟨q,hq⟩ : ∃ q,s[k].toNat=q+48:=⟨s[k].toNat - 48,by omega⟩
    have hq9:q≤9:=by omega
    have HQ:Hid (s[k].toNat=q+48):=hq
    go_wp2_with fail
    go_roundw
    case rel =>
     have e:Lx.val (s.data.toList.take (k+1))=10 * n+q:=by rw[HV.out,HQ.out];omega
     exact⟨k+1,by omega,by go_num,by rw[e];go_num,by omega,by trivial⟩
    case measure=>simp[intOf];omega
   ·have hn2:(2147483647:Int)<(n:Int):=by omega
    have hk2:(k:Int)<(s.size:Int):=by omega
    go_wp2_with fail
    go_ret
    exact⟨n,rfl,⟨fun _=>by have:=HM.out;omega,fun _=>by omega⟩,fun h=>by omega,rfl⟩
  ·have hke:k=s.size:=by omega
   have HF:Hid (n=Lx.val s.data.toList):=by
    show _=_
    rw[HNN.out,hke,List.take_of_length_le (by rw[size_toList];omega)]
   subst hke
   go_wp2_with fail
   go_ret
   exact⟨n,rfl,by rw[HF.out],fun _=>HF.out,rfl⟩
end Go.Proofs.YtmacepicoandkaaGreatDoor
namespace Go.Proofs.YtmacepicoandkaaGreatDoor
open Go.RowKit Go.Shelf
namespace Lx
def signOf (r:Bs):Bs:=match signs.find? (·.isPrefixOf r) with
 | some t=>t
 | none=>[]
theorem find_take (l:List Bs) (p:Bs→Bool) (k:Nat) (x:Bs) (h:l[k]?=some x) (hno:(l.take k).find? p=none):(p x=true→l.find? p=some x)∧(p x=false→(l.take (k+1)).find? p=none):=by
 have hk:=(List.getElem?_eq_some_iff.1 h).1
 constructor
 ·intro hp
  have e:l=l.take k++x :: l.drop (k+1):=by
   conv=>lhs;rw[← List.take_append_drop k l]
   rw[List.drop_eq_getElem_cons hk]
   congr 2
   rw[List.getElem?_eq_getElem hk] at h
   exact Option.some.inj h
  rw[e,List.find?_append,hno]
  simp[hp]
 ·intro hp
  rw[List.take_add_one,h,List.find?_append,hno]
  simp[hp]
end Lx
theorem pre_iff (s y:ByteArray) (_h:y.size≤s.size):((s.extract 0 y.size).toList=y.toList)↔y.data.toList.isPrefixOf s.data.toList=true:=by
 rw[Lib.toList_data,Lib.toList_data,extract_take,List.isPrefixOf_iff_prefix,List.prefix_iff_eq_take,size_toList]
 exact⟨fun h=>h.symm,fun h=>h.symm⟩
set_option maxHeartbeats 1000000 in
theorem rsign_any (s:ByteArray) (_hs:s.size≤100000) (w:World) :
  Calls Tryz.prog 102 #[.string s] w fun e w'=>e=.returned (.string ⟨(Lx.signOf s.data.toList).toArray⟩)∧Below w.heap.size w w':=by
 go_enter Tryz.func102,Tryz.ntmps102
 go_wp2_with fail
 refine (Signs_any w).mono ?_
 rintro e w1 ⟨b,c,rfl,hb1,hc1⟩
 go_wp2_with fail
 go_loopw [4] (fun i wr=>∃ k:Nat,k≤16∧i=.int .i64 k∧(Lx.signs.take k).find? (·.isPrefixOf s.data.toList)=none∧∃ q,wr=w1.drewN q) (fun i _=>16 - (intOf i).toNat)
 case atStart=>exact⟨0,Nat.zero_le _,rfl,rfl,0,rfl⟩
 case round =>
  obtain⟨k,hk,rfl,hno,q,rfl⟩:=hrel
  by_cases hlt:k<16
  ·obtain⟨x,hx⟩ : ∃ x,Lx.signs[k]?=some x:=⟨_,List.getElem?_eq_getElem hlt⟩
   have hc:=hc1 k x hx
   unfold wordC at hc
   obtain⟨y,hy⟩ : ∃ y:ByteArray,y=⟨x.toArray⟩:=⟨_,rfl⟩
   rw[← hy] at hc
   have hyl:y.data.toList=x:=by rw[hy]
   have HT:Hid _:=Lx.find_take Lx.signs (·.isPrefixOf s.data.toList) k x hx hno
   have hxl:=(Lx.signs_ne x (List.mem_of_getElem? hx)).2.1
   have hysz:y.size≤2:=by rw[← size_toList,hyl];exact hxl
   have hk0:(0:Int)≤(k:Int):=by omega
   have hk2:(k:Int)<16:=by omega
   by_cases hsz:y.size≤s.size
   ·have hs1:decide ((y.size:Int)≤(s.size:Int))=true:=by simp;omega
    have hs2:(y.size:Int)≤(s.size:Int):=by omega
    have HP:Hid _:=pre_iff s y hsz
    by_cases heq:(s.extract 0 y.size).toList=y.toList
    ·have HF:Hid (Lx.signOf s.data.toList=y.data.toList):=by
      show _=_
      have:=HT.out.1 (by rw[← hyl];exact HP.out.1 heq)
      unfold Lx.signOf;rw[this,hyl]
     have heq2:((s.extract 0 y.size).toList==y.toList)=true:=by simp[heq]
     clear hc1 hx hy hyl hno hxl
     go_wp2_with fail
     go_quiet (fail)
     go_wp2_with fail
     go_ret
     exact⟨ret_string (by rw[HF.out]),below_drawn hb1 _⟩
    ·have HF:Hid ((Lx.signs.take (k+1)).find? (·.isPrefixOf s.data.toList)=none):=by
      show _=_
      refine HT.out.2 ?_
      rw[← hyl,← Bool.not_eq_true,← HP.out];exact heq
     have heq2:((s.extract 0 y.size).toList==y.toList)=false:=by simp[heq]
     clear hc1 hx hy hyl hno hxl
     go_wp2_with fail
     go_quiet (fail)
     go_wp2_with fail
     go_roundw
     case rel=>exact⟨k+1,by omega,by go_num,HF.out,_,rfl⟩
     case measure=>simp[intOf];omega
   ·have hs1:decide ((y.size:Int)≤(s.size:Int))=false:=by simp;omega
    have hs2:¬ (y.size:Int)≤(s.size:Int):=by omega
    have HF:Hid ((Lx.signs.take (k+1)).find? (·.isPrefixOf s.data.toList)=none):=by
     show _=_
     refine HT.out.2 ?_
     rw[← hyl,← Bool.not_eq_true]
     intro h
     have:=(List.isPrefixOf_iff_prefix.1 h).length_le
     rw[size_toList,size_toList] at this;omega
    clear hc1 hx hy hyl hno hxl
    go_wp2_with fail
    go_quiet (fail)
    go_wp2_with fail
    go_roundw
    case rel=>exact⟨k+1,by omega,by go_num,HF.out,_,rfl⟩
    case measure=>simp[intOf];omega
  ·have hke:k=16:=by omega
   subst hke
   have HF:Hid (Lx.signOf s.data.toList=[]):=by
    show _=_
    have h:Lx.signs.find? (·.isPrefixOf s.data.toList)=none:=hno
    unfold Lx.signOf;rw[h]
   clear hno hc1
   go_wp2_with fail
   go_ret
   exact⟨ret_string (by rw[HF.out]),below_drawn hb1 _⟩
def WordPost (s : ByteArray) (p : Nat) (w : World) (e : Ending) (w' : World) : Prop :=
  ∃ (k er : Nat) (t : ByteArray) (p' : Nat), e = .returned (.tuple #[.agg #[.int .i64 k, .string t, .int .i64 p'], .int .i64 er]) ∧ Below w.heap.size w w' ∧
    ((er = 0 ∧ t = s ∧ p' = p ∧ ((k = 3 ∧ Lx.isWord s.data.toList = true) ∨ (k = 1 ∧ Lx.isWord s.data.toList = false ∧ Lx.isName s.data.toList = true))) ∨
     (er = 5 ∧ Lx.isWord s.data.toList = false ∧ Lx.isName s.data.toList = false))
theorem three_cells {W:World} {b T:Nat} {x y z:Value} (h:W.heap[b]?=some (.cells #[x,y,z] T (0,0))) :
  (W.cell? ⟨b,0,none⟩=some x∧W.cell? ⟨b,1,none⟩=some y∧W.cell? ⟨b,2,none⟩=some z)∧W.frozen? ⟨b,0,none⟩=false∧W.frozen? ⟨b,1,none⟩=false∧W.frozen? ⟨b,2,none⟩=false :=
 ⟨⟨by simp[World.cell?,h],by simp[World.cell?,h],by simp[World.cell?,h]⟩,by simp[World.frozen?,h],by simp[World.frozen?,h],by simp[World.frozen?,h]⟩
set_option maxHeartbeats 1000000 in
theorem rword_any (s:ByteArray) (p:Nat) (w:World) :
  Calls Tryz.prog 101 #[.string s,.int .i64 p] w (WordPost s p w):=by
 obtain⟨b1,hb1⟩ : ∃ b,b=Lx.isWord s.data.toList:=⟨_,rfl⟩
 have H1:Hid (Lx.isWord s.data.toList=b1):=hb1.symm
 obtain⟨b2,hb2⟩ : ∃ b,b=Lx.isName s.data.toList:=⟨_,rfl⟩
 have H2:Hid (Lx.isName s.data.toList=b2):=hb2.symm
 clear hb1 hb2
 obtain⟨W0,hW0⟩ : ∃ W0,W0=(w.alloc (.cells #[.int .i64 0,.string ⟨#[]⟩,.int .i64 0] 127)).alloc (.cells #[.int .i64 1,.string s,.int .i64 p] 127):=⟨_,rfl⟩
 have bW:Below w.heap.size w W0:=by rw[hW0];exact ((Below.refl _ _).alloc (Nat.le_refl _) _).alloc (by simp) _
 have hB:W0.heap[w.heap.size+1]?=some (.cells #[.int .i64 1,.string s,.int .i64 p] 127):=by
  have:=heap_alloc_new (w.alloc (.cells #[.int .i64 0,.string ⟨#[]⟩,.int .i64 0] 127)) (.cells #[.int .i64 1,.string s,.int .i64 p] 127)
  rw[hW0];simpa using this
 have hA:W0.heap[w.heap.size]?=some (.cells #[.int .i64 0,.string ⟨#[]⟩,.int .i64 0] 127):=by
  rw[hW0,Below.heap_alloc _ _ _ (by simp)];exact heap_alloc_new w _
 have HW0:Hid (W0=_):=hW0
 clear hW0
 go_enter Tryz.func101,Tryz.ntmps101
 go_wp2_with fail
 rw[← HW0.out]
 refine (rIsWord_any s W0).mono ?_
 rintro e w2 ⟨rfl,hb2⟩
 rw[H1.out]
 have B2:=below_next bW hb2
 have hA2:=(hb2.block _ (Array.getElem?_eq_some_iff.1 hA).1).trans hA
 have hB2:=(hb2.block _ (Array.getElem?_eq_some_iff.1 hB).1).trans hB
 clear HW0 bW hA hB hb2
 obtain⟨a,ha⟩ : ∃ a,w.heap.size=a:=⟨_,rfl⟩
 have HAA:Hid (w.heap.size=a):=ha
 rw[ha] at hA2 hB2
 rw[ha]
 clear ha
 obtain⟨⟨a0,a1,a2⟩,fa0,fa1,fa2⟩:=three_cells hA2
 obtain⟨⟨d0,d1,d2⟩,fd0,fd1,fd2⟩:=three_cells hB2
 have up:∀ q:Nat,w.heap.size≤a+q:=fun q=>by have:=HAA.out;omega
 cases b1
 ·go_wp2_with fail
  refine (rIsName_any s w2).mono ?_
  rintro e w3 ⟨rfl,hb3⟩
  rw[H2.out]
  have B3:=below_next B2 hb3
  have hA3:=(hb3.block _ (Array.getElem?_eq_some_iff.1 hA2).1).trans hA2
  have hB3:=(hb3.block _ (Array.getElem?_eq_some_iff.1 hB2).1).trans hB2
  clear a0 a1 a2 fa0 fa1 fa2 d0 d1 d2 fd0 fd1 fd2 hA2 hB2 hb3 B2
  obtain⟨⟨a0,a1,a2⟩,fa0,fa1,fa2⟩:=three_cells hA3
  obtain⟨⟨d0,d1,d2⟩,fd0,fd1,fd2⟩:=three_cells hB3
  cases b2
  ·go_wp2_with fail
   refine bodyPost_ret (v:=.tuple #[.agg #[.int .i64 0,.string ⟨#[]⟩,.int .i64 0],.int .i64 5]) (by simp[results,Tryz.results101,go_sem,a0,a1,a2]) rfl ?_
   exact⟨0,5,⟨#[]⟩,0,rfl,(((B3.setCell (up 0) _).setCell (up 0) _).setCell (up 0) _),Or.inr ⟨rfl,H1.out,H2.out⟩⟩
  ·go_wp2_with fail
   refine bodyPost_ret (v:=.tuple #[.agg #[.int .i64 1,.string s,.int .i64 p],.int .i64 0]) (by simp[results,Tryz.results101,go_sem,a0,a1,a2]) rfl ?_
   exact⟨1,0,s,p,rfl,(((B3.setCell (up 0) _).setCell (up 0) _).setCell (up 0) _),Or.inl ⟨rfl,rfl,rfl,Or.inr ⟨rfl,H1.out,H2.out⟩⟩⟩
 ·go_wp2_with fail
  refine bodyPost_ret (v:=.tuple #[.agg #[.int .i64 3,.string s,.int .i64 p],.int .i64 0]) (by simp[results,Tryz.results101,go_sem,a0,a1,a2]) rfl ?_
  exact⟨3,0,s,p,rfl,((((B2.setCell (up 1) _).setCell (up 0) _).setCell (up 0) _).setCell (up 0) _),Or.inl ⟨rfl,rfl,rfl,Or.inl ⟨rfl,H1.out⟩⟩⟩
def OnePost (s:ByteArray) (p:Nat) (w:World) (e:Ending) (w':World):Prop :=
 ∃ (k er:Nat) (t:ByteArray) (p':Nat),e=.returned (.tuple #[.agg #[.int .i64 k,.string t,.int .i64 p'],.int .i64 er])∧Below w.heap.size w w' ∧
  ((er=0∧p'=p∧Lx.first s.data.toList=.tok k t.data.toList)∨(er≠0∧Lx.first s.data.toList=.err er))
namespace Lx
theorem row_facts (p:UInt8→Bool) (l:Bs):(∀ k c,k<(l.takeWhile p).length→l[k]?=some c→p c=true)∧(∀ c,l[(l.takeWhile p).length]?=some c→p c=false):=by
 induction l with
 | nil=>exact⟨fun k c h=>by simp at h,fun c h=>by simp at h⟩
 | cons x l ih =>
  rw[List.takeWhile_cons]
  split
  ·rename_i hx
   refine⟨fun k c h hc=>?_,fun c h=>ih.2 c (by simpa using h)⟩
   cases k with
   | zero=>simp at hc;subst hc;exact hx
   | succ k=>exact ih.1 k c (by simpa using h) (by simpa using hc)
  ·rename_i hx
   exact⟨fun k c h=>by simp at h,fun c h=>by simp at h;subst h;simpa using hx⟩
theorem dig_empty {r:Bs} (h:isDig (r.headD 0)=false):r.takeWhile isDig=[]:=by
 cases r with
 | nil=>rfl
 | cons c r=>simp at h;rw[List.takeWhile_cons,if_neg (by simp[h])]
theorem pt_empty {r:Bs} (h:isDig (r.headD 0)=false) (h2:isLet (r.headD 0)=false):r.takeWhile isPt=[]:=by
 cases r with
 | nil=>rfl
 | cons c r=>simp at h h2;rw[List.takeWhile_cons,if_neg (by simp[isPt,h,h2])]
end Lx
set_option maxHeartbeats 2000000 in
theorem rone_any (s:ByteArray) (p:Nat) (hs:s.size≤100000) (hpos:0<s.size) (w:World) :
  Calls Tryz.prog 89 #[.string s,.int .i64 p] w (OnePost s p w):=by
 have hb0:=headD_byte s hpos
 obtain⟨b1,hb1⟩ : ∃ b,b=Lx.isDig (s.data.toList.headD 0):=⟨_,rfl⟩
 have c1:=rdigit_any s[0]
 rw[← hb0,← hb1] at c1
 have H1:Hid (Lx.isDig (s.data.toList.headD 0)=b1):=hb1.symm
 obtain⟨b2,hb2⟩ : ∃ b,b=Lx.isLet (s.data.toList.headD 0):=⟨_,rfl⟩
 have c2:=rletter_any s[0]
 rw[← hb0,← hb2] at c2
 have H2:Hid (Lx.isLet (s.data.toList.headD 0)=b2):=hb2.symm
 rw[hb0] at c1 c2
 clear hb0 hb1 hb2
 obtain⟨W0,hW0⟩ : ∃ W0,W0=w.alloc (.cells #[.int .i64 0,.string ⟨#[]⟩,.int .i64 0] 127):=⟨_,rfl⟩
 have bW:Below w.heap.size w W0:=by rw[hW0];exact (Below.refl _ _).alloc (Nat.le_refl _) _
 have hA:W0.heap[w.heap.size]?=some (.cells #[.int .i64 0,.string ⟨#[]⟩,.int .i64 0] 127):=by
  rw[hW0];exact heap_alloc_new w _
 have HW0:Hid (W0=_):=hW0
 clear hW0
 have C1:=Lib.hid c1
 have C2:=Lib.hid c2
 clear c1 c2
 go_enter Tryz.func89,Tryz.ntmps89
 go_wp2_with fail
 rw[← HW0.out]
 refine (C1.out W0).mono ?_
 rintro e w1 ⟨rfl,hW⟩
 subst hW
 obtain⟨a,ha⟩ : ∃ a,w.heap.size=a:=⟨_,rfl⟩
 have HAA:Hid (w.heap.size=a):=ha
 rw[ha] at hA
 rw[ha]
 clear ha
 obtain⟨⟨a0,a1,a2⟩,fa0,fa1,fa2⟩:=three_cells hA
 have up:w.heap.size≤a:=by have:=HAA.out;omega
 clear HW0
 cases b1
 ·go_wp2_with fail
  refine (C2.out w1).mono ?_
  rintro e w3 ⟨rfl,hW⟩
  subst hW
  cases b2
  ·have HD:Hid (s.data.toList.takeWhile Lx.isDig=[]):=Lx.dig_empty H1.out
   have HP:Hid (s.data.toList.takeWhile Lx.isPt=[]):=Lx.pt_empty H1.out H2.out
   go_wp2_with fail
   refine (rsign_any s hs w3).mono ?_
   rintro e w4 ⟨rfl,hb4⟩
   obtain⟨t,ht⟩ : ∃ t:ByteArray,t=⟨(Lx.signOf s.data.toList).toArray⟩:=⟨_,rfl⟩
   rw[← ht]
   have HT:Hid (t.data.toList=Lx.signOf s.data.toList):=by show _=_;rw[ht]
   have B4:=below_next bW hb4
   have hA4:=(hb4.block _ (Array.getElem?_eq_some_iff.1 hA).1).trans hA
   clear a0 a1 a2 fa0 fa1 fa2 hA hb4 bW ht C1 C2
   obtain⟨⟨a0,a1,a2⟩,fa0,fa1,fa2⟩:=three_cells hA4
   by_cases he:t.toList=[]
   ·have he2:t.toList.isEmpty=true:=by simp[he]
    have HF:Hid (Lx.first s.data.toList=.err 5):=by
     show _=_
     rw[first_sign HD.out HP.out]
     have h1:Lx.signOf s.data.toList=[]:=by rw[← HT.out];exact toList_nil.1 he
     unfold Lx.signOf at h1
     split at h1
     ·rename_i x hx
      exact absurd h1 (Lx.signs_ne _ (List.mem_of_find?_eq_some hx)).1
     ·rename_i hx;rw[hx]
    go_wp2_with fail
    refine bodyPost_ret (v:=.tuple #[.agg #[.int .i64 0,.string ⟨#[]⟩,.int .i64 0],.int .i64 5]) (by simp[results,Tryz.results89,go_sem,a0,a1,a2]) rfl ?_
    exact⟨0,5,⟨#[]⟩,0,rfl,(((B4.setCell up _).setCell up _).setCell up _),Or.inr ⟨by omega,HF.out⟩⟩
   ·have he2:t.toList.isEmpty=false:=by simp[he]
    have HF:Hid (Lx.first s.data.toList=.tok 4 t.data.toList):=by
     show _=_
     rw[first_sign HD.out HP.out]
     have h1:Lx.signOf s.data.toList≠[]:=by rw[← HT.out];exact fun h=>he (toList_nil.2 h)
     have h2:=HT.out
     unfold Lx.signOf at h1 h2
     split at h1
     ·rename_i x hx;rw[hx] at h2 ⊢;rw[h2]
     ·exact absurd rfl h1
    go_wp2_with fail
    refine bodyPost_ret (v:=.tuple #[.agg #[.int .i64 4,.string t,.int .i64 p],.int .i64 0]) (by simp[results,Tryz.results89,go_sem,a0,a1,a2]) rfl ?_
    exact⟨4,0,t,p,rfl,(((B4.setCell up _).setCell up _).setCell up _),Or.inl ⟨rfl,rfl,HF.out⟩⟩
  ·have HD:Hid (s.data.toList.takeWhile Lx.isDig=[]):=Lx.dig_empty H1.out
   obtain⟨d,hd⟩ : ∃ d,d=(s.data.toList.takeWhile Lx.isPt).length:=⟨_,rfl⟩
   have hds:d≤s.size:=by rw[hd,← size_toList];exact (List.takeWhile_prefix _).length_le
   have HTK:Hid (s.data.toList.takeWhile Lx.isPt=s.data.toList.take d):=by show _=_;rw[hd];exact List.prefix_iff_eq_take.1 (List.takeWhile_prefix _)
   have HYES:Hid (∀ k (h:k<s.size),k<d→Lx.isPt s[k]=true):=fun k h hk=>by
    have h1:(s.data.toList.takeWhile Lx.isPt)[k]?=some s[k]:=by rw[HTK.out,List.getElem?_take,if_pos hk];exact byte_at s k h
    exact List.all_eq_true.1 List.all_takeWhile s[k] (List.mem_of_getElem? h1)
   have HNO:Hid (∀ (h:d<s.size),Lx.isPt s[d]=false):=fun h=>by
    cases q:Lx.isPt s[d] with
    | false=>rfl
    | true =>
     have h2:∀ (l:Lx.Bs) (n:Nat) (c:UInt8),n=(l.takeWhile Lx.isPt).length→l[n]?=some c→Lx.isPt c=false:=by
      intro l
      induction l with
      | nil=>intro n c _ h;simp at h
      | cons x l ih =>
       intro n c hn h
       rw[List.takeWhile_cons] at hn
       split at hn
       ·simp at hn;subst hn;exact ih _ c rfl (by simpa using h)
       ·rename_i hx;simp at hn;subst hn;simp at h;subst h;simpa using hx
     rw[h2 _ _ _ hd (byte_at s d h)] at q;cases q
   have hpd:0<d:=by
    rcases Nat.eq_zero_or_pos d with h | h
    ·subst h
     have:=HNO.out hpos
     have h2:=H2.out
     rw[headD_byte s hpos] at h2
     unfold Lx.isPt at this;rw[h2] at this;simp at this
    ·exact h
   clear hd
   go_wp2_with fail
   go_loopw [6] (fun i wr=>∃ k:Nat,k≤d∧i=.int .i64 k∧wr=w3) (fun i _=>d - (intOf i).toNat)
   case atStart=>exact⟨0,Nat.zero_le _,rfl,rfl⟩
   case round =>
    obtain⟨k,hk,rfl,hW⟩:=hrel
    subst hW
    by_cases hlt:k<d
    ·have hks:k<s.size:=by omega
     have hk2:(k:Int)<(s.size:Int):=by omega
     have c3:=rletter_any s[k] wr
     have c4:=rdigit_any s[k] wr
     obtain⟨b3,hb3⟩ : ∃ b,b=Lx.isLet s[k]:=⟨_,rfl⟩
     rw[← hb3] at c3
     have HY:=HYES.out k hks hlt
     unfold Lx.isPt at HY
     rw[← hb3] at HY
     clear hb3
     cases b3
     ·rw[Bool.false_or] at HY
      rw[HY] at c4
      clear HY
      go_wp2_with fail
      refine c3.mono ?_
      rintro e w5 ⟨rfl,hW⟩
      subst hW
      go_wp2_with fail
      refine c4.mono ?_
      rintro e w5 ⟨rfl,hW⟩
      subst hW
      clear c3 c4
      go_wp2_with fail
      go_roundw
      case rel=>exact⟨k+1,by omega,by go_num,by trivial⟩
      case measure=>simp[intOf];omega
     ·clear HY
      go_wp2_with fail
      refine c3.mono ?_
      rintro e w5 ⟨rfl,hW⟩
      subst hW
      clear c3 c4
      go_wp2_with fail
      go_roundw
      case rel=>exact⟨k+1,by omega,by go_num,by trivial⟩
      case measure=>simp[intOf];omega
    ·have hke:k=d:=by omega
     subst hke
     clear hlt hk C1 C2
     rcases Nat.lt_or_eq_of_le hds with hlt | heq
     ·have hk2:(k:Int)<(s.size:Int):=by omega
      have c3:=rletter_any s[k] wr
      have c4:=rdigit_any s[k] wr
      have HY:=HNO.out hlt
      unfold Lx.isPt at HY
      rw[Bool.or_eq_false_iff] at HY
      rw[HY.1] at c3
      rw[HY.2] at c4
      clear HY
      go_wp2_with fail
      refine c3.mono ?_
      rintro e w5 ⟨rfl,hW⟩
      subst hW
      go_wp2_with fail
      refine c4.mono ?_
      rintro e w5 ⟨rfl,hW⟩
      subst hW
      clear c3 c4
      go_wp2_with fail
      refine (rword_any (s.extract 0 k) p _).mono ?_
      rintro e w4 ⟨kk,er,t,p',rfl,hb4,hor⟩
      have HW:Hid ((er=0∧p'=p∧Lx.first s.data.toList=.tok kk t.data.toList)∨(er≠0∧Lx.first s.data.toList=.err er)):=by
       have hx:(s.extract 0 k).data.toList=s.data.toList.takeWhile Lx.isPt:=by rw[HTK.out,extract_take]
       have hne:s.data.toList.takeWhile Lx.isPt≠[]:=by
        rw[← List.length_pos_iff,HTK.out,List.length_take,size_toList];omega
       rw[hx] at hor
       rcases hor with ⟨h1,h2,h3,h4 | h4⟩ | ⟨h1,h2,h3⟩
       ·exact Or.inl ⟨h1,h3,by rw[first_word HD.out h4.2,h4.1,h2,hx]⟩
       ·exact Or.inl ⟨h1,h3,by rw[first_name HD.out h4.2.1 h4.2.2,h4.1,h2,hx]⟩
       ·exact Or.inr ⟨by omega,by rw[first_none HD.out h2 h3 hne,h1]⟩
      have B4:=below_next bW hb4
      have hA4:=(hb4.block _ (Array.getElem?_eq_some_iff.1 hA).1).trans hA
      clear a0 a1 a2 fa0 fa1 fa2 hA hb4 bW hor
      obtain⟨⟨a0,a1,a2⟩,fa0,fa1,fa2⟩:=three_cells hA4
      go_wp2_with fail
      refine bodyPost_ret (v:=.tuple #[.agg #[.int .i64 kk,.string t,.int .i64 p'],.int .i64 er]) (by simp[results,Tryz.results89,go_sem,a0,a1,a2]) rfl ?_
      exact⟨kk,er,t,p',rfl,(((B4.setCell up _).setCell up _).setCell up _),HW.out⟩
     ·have hk2:¬ (k:Int)<(s.size:Int):=by omega
      have HEQ:Hid (k=s.size):=heq
      clear heq
      go_wp2_with fail
      refine (rword_any (s.extract 0 k) p _).mono ?_
      rintro e w4 ⟨kk,er,t,p',rfl,hb4,hor⟩
      have HW:Hid ((er=0∧p'=p∧Lx.first s.data.toList=.tok kk t.data.toList)∨(er≠0∧Lx.first s.data.toList=.err er)):=by
       have hx:(s.extract 0 k).data.toList=s.data.toList.takeWhile Lx.isPt:=by rw[HTK.out,extract_take]
       have hne:s.data.toList.takeWhile Lx.isPt≠[]:=by
        rw[← List.length_pos_iff,HTK.out,List.length_take,size_toList];omega
       rw[hx] at hor
       rcases hor with ⟨h1,h2,h3,h4 | h4⟩ | ⟨h1,h2,h3⟩
       ·exact Or.inl ⟨h1,h3,by rw[first_word HD.out h4.2,h4.1,h2,hx]⟩
       ·exact Or.inl ⟨h1,h3,by rw[first_name HD.out h4.2.1 h4.2.2,h4.1,h2,hx]⟩
       ·exact Or.inr ⟨by omega,by rw[first_none HD.out h2 h3 hne,h1]⟩
      have B4:=below_next bW hb4
      have hA4:=(hb4.block _ (Array.getElem?_eq_some_iff.1 hA).1).trans hA
      clear a0 a1 a2 fa0 fa1 fa2 hA hb4 bW hor
      obtain⟨⟨a0,a1,a2⟩,fa0,fa1,fa2⟩:=three_cells hA4
      go_wp2_with fail
      refine bodyPost_ret (v:=.tuple #[.agg #[.int .i64 kk,.string t,.int .i64 p'],.int .i64 er]) (by simp[results,Tryz.results89,go_sem,a0,a1,a2]) rfl ?_
      exact⟨kk,er,t,p',rfl,(((B4.setCell up _).setCell up _).setCell up _),HW.out⟩
 ·obtain⟨d,hd⟩ : ∃ d,d=(s.data.toList.takeWhile Lx.isDig).length:=⟨_,rfl⟩
  have hds:d≤s.size:=by rw[hd,← size_toList];exact (List.takeWhile_prefix _).length_le
  have HTK:Hid (s.data.toList.takeWhile Lx.isDig=s.data.toList.take d):=by show _=_;rw[hd];exact List.prefix_iff_eq_take.1 (List.takeWhile_prefix _)
  have HLEN:Hid ((s.data.toList.takeWhile Lx.isDig).length=d):=hd.symm
  obtain⟨HY0,HN0⟩:=Lx.row_facts Lx.isDig s.data.toList
  rw[← hd] at HY0 HN0
  have HYES:Hid (∀ k (h:k<s.size),k<d→Lx.isDig s[k]=true):=fun k h hk=>HY0 k _ hk (byte_at s k h)
  have HNO:Hid (∀ (h:d<s.size),Lx.isDig s[d]=false):=fun h=>HN0 _ (byte_at s d h)
  have hpd:0<d:=by
   rcases Nat.eq_zero_or_pos d with h | h
   ·subst h
    have:=HNO.out hpos
    have h2:=H1.out
    rw[headD_byte s hpos,this] at h2;cases h2
   ·exact h
  have HNE:Hid (s.data.toList.takeWhile Lx.isDig≠[]):=by
   show _≠_
   rw[← List.length_pos_iff,← hd];exact hpd
  have HHD:Hid ((s.data.toList.takeWhile Lx.isDig).headD 0=s.data.toList.headD 0):=by
   show _=_
   have h1:=H1.out
   cases h:s.data.toList with
   | nil=>rfl
   | cons c r=>rw[h] at h1;simp at h1;rw[List.takeWhile_cons,if_pos h1];rfl
  clear hd HY0 HN0 C1 C2
  go_wp2_with fail
  go_loopw [6] (fun i wr=>∃ k:Nat,k≤d∧i=.int .i64 k∧wr=w1) (fun i _=>d - (intOf i).toNat)
  case atStart=>exact⟨0,Nat.zero_le _,rfl,rfl⟩
  case round =>
   obtain⟨k,hk,rfl,hW⟩:=hrel
   subst hW
   by_cases hlt:k<d
   ·have hks:k<s.size:=by omega
    have hk2:(k:Int)<(s.size:Int):=by omega
    have c4:=rdigit_any s[k] wr
    rw[HYES.out k hks hlt] at c4
    go_wp2_with fail
    refine c4.mono ?_
    rintro e w5 ⟨rfl,hW⟩
    subst hW
    clear c4
    go_wp2_with fail
    go_roundw
    case rel=>exact⟨k+1,by omega,by go_num,by trivial⟩
    case measure=>simp[intOf];omega
   ·have hke:k=d:=by omega
    subst hke
    clear hlt hk
    rcases Nat.lt_or_eq_of_le hds with hlt | heq
    ·have hk2:(k:Int)<(s.size:Int):=by omega
     have c4:=rdigit_any s[k] wr
     rw[HNO.out hlt] at c4
     go_wp2_with fail
     refine c4.mono ?_
     rintro e w5 ⟨rfl,hW⟩
     subst hW
     clear c4
     by_cases h48:1<k∧s[0]=48
     ·have h1:(1:Int)<(k:Int):=by omega
      have h2:(((s[0].toNat:Nat):Int)==48)=true:=byte48.2 h48.2
      have HF:Hid (Lx.first s.data.toList=.err 2):=by
       show _=_
       rw[first_dig HNE.out,if_pos ((Lx.tooBig_ref _ List.all_takeWhile HNE.out).2 (Or.inl ⟨by rw[HLEN.out];omega,by rw[HHD.out,headD_byte s hpos];exact h48.2⟩))]
      clear h48
      go_wp2_with fail
      refine bodyPost_ret (v:=.tuple #[.agg #[.int .i64 0,.string ⟨#[]⟩,.int .i64 0],.int .i64 2]) (by simp[results,Tryz.results89,go_sem,a0,a1,a2]) rfl ?_
      exact⟨0,2,⟨#[]⟩,0,rfl,(((bW.setCell up _).setCell up _).setCell up _),Or.inr ⟨by omega,HF.out⟩⟩
     ·have hor:(¬ (1:Int)<(k:Int))∨((1:Int)<(k:Int)∧(((s[0].toNat:Nat):Int)==48)=false):=by
       by_cases h1:1<k
       ·refine Or.inr ⟨by omega,?_⟩
        rw[← Bool.not_eq_true,byte48];exact fun h=>h48 ⟨h1,h⟩
       ·exact Or.inl (by omega)
      have H48:Hid (¬ (1<k∧s[0]=48)):=h48
      clear h48
      rcases hor with h1 | ⟨h1,h2⟩
      all_goals
       go_wp2_with fail
       refine (rValue_any (s.extract 0 k) (by rw[extract_take,← HTK.out];exact List.all_takeWhile) (by rw[← size_toList,extract_take,List.length_take,size_toList];omega) _).mono ?_
       rintro e w4 ⟨n,rfl,hn1,hn2,hW⟩
       subst hW
       have hx:(s.extract 0 k).data.toList=s.data.toList.takeWhile Lx.isDig:=by rw[HTK.out,extract_take]
       have TB:=Lx.tooBig_ref _ List.all_takeWhile HNE.out
       rw[hx] at hn1
       rw[HLEN.out,HHD.out,headD_byte s hpos] at TB
       have HX:Hid ((s.extract 0 k).data.toList=s.data.toList.takeWhile Lx.isDig):=hx
       by_cases hbig:2147483647<n
       ·have hb2:(2147483647:Int)<(n:Int):=by omega
        have HF:Hid (Lx.first s.data.toList=.err 2):=by
         show _=_
         rw[first_dig HNE.out,if_pos (TB.2 (Or.inr (hn1.1 hbig)))]
        clear hn1 hn2 hx TB
        go_wp2_with fail
        refine bodyPost_ret (v:=.tuple #[.agg #[.int .i64 0,.string ⟨#[]⟩,.int .i64 0],.int .i64 2]) (by simp[results,Tryz.results89,go_sem,a0,a1,a2]) rfl ?_
        exact⟨0,2,⟨#[]⟩,0,rfl,(((bW.setCell up _).setCell up _).setCell up _),Or.inr ⟨by omega,HF.out⟩⟩
       ·have hb2:¬ (2147483647:Int)<(n:Int):=by omega
        have HF:Hid (Lx.first s.data.toList=.tok 2 (s.extract 0 k).data.toList):=by
         show _=_
         rw[first_dig HNE.out,hx,if_neg]
         rw[TB]
         rintro (h | h)
         ·exact H48.out h
         ·exact hbig (hn1.2 h)
        clear hn1 hn2 hx TB
        go_wp2_with fail
        refine bodyPost_ret (v:=.tuple #[.agg #[.int .i64 2,.string (s.extract 0 k),.int .i64 p],.int .i64 0]) (by simp[results,Tryz.results89,go_sem,a0,a1,a2]) rfl ?_
        exact⟨2,0,_,p,rfl,(((bW.setCell up _).setCell up _).setCell up _),Or.inl ⟨rfl,rfl,HF.out⟩⟩
    ·have hk2:¬ (k:Int)<(s.size:Int):=by omega
     have HEQ:Hid (k=s.size):=heq
     clear heq
     by_cases h48:1<k∧s[0]=48
     ·have h1:(1:Int)<(k:Int):=by omega
      have h2:(((s[0].toNat:Nat):Int)==48)=true:=byte48.2 h48.2
      have HF:Hid (Lx.first s.data.toList=.err 2):=by
       show _=_
       rw[first_dig HNE.out,if_pos ((Lx.tooBig_ref _ List.all_takeWhile HNE.out).2 (Or.inl ⟨by rw[HLEN.out];omega,by rw[HHD.out,headD_byte s hpos];exact h48.2⟩))]
      clear h48
      go_wp2_with fail
      refine bodyPost_ret (v:=.tuple #[.agg #[.int .i64 0,.string ⟨#[]⟩,.int .i64 0],.int .i64 2]) (by simp[results,Tryz.results89,go_sem,a0,a1,a2]) rfl ?_
      exact⟨0,2,⟨#[]⟩,0,rfl,(((bW.setCell up _).setCell up _).setCell up _),Or.inr ⟨by omega,HF.out⟩⟩
     ·have hor:(¬ (1:Int)<(k:Int))∨((1:Int)<(k:Int)∧(((s[0].toNat:Nat):Int)==48)=false):=by
       by_cases h1:1<k
       ·refine Or.inr ⟨by omega,?_⟩
        rw[← Bool.not_eq_true,byte48];exact fun h=>h48 ⟨h1,h⟩
       ·exact Or.inl (by omega)
      have H48:Hid (¬ (1<k∧s[0]=48)):=h48
      clear h48
      rcases hor with h1 | ⟨h1,h2⟩
      all_goals
       go_wp2_with fail
       refine (rValue_any (s.extract 0 k) (by rw[extract_take,← HTK.out];exact List.all_takeWhile) (by rw[← size_toList,extract_take,List.length_take,size_toList];omega) _).mono ?_
       rintro e w4 ⟨n,rfl,hn1,hn2,hW⟩
       subst hW
       have hx:(s.extract 0 k).data.toList=s.data.toList.takeWhile Lx.isDig:=by rw[HTK.out,extract_take]
       have TB:=Lx.tooBig_ref _ List.all_takeWhile HNE.out
       rw[hx] at hn1
       rw[HLEN.out,HHD.out,headD_byte s hpos] at TB
       have HX:Hid ((s.extract 0 k).data.toList=s.data.toList.takeWhile Lx.isDig):=hx
       by_cases hbig:2147483647<n
       ·have hb2:(2147483647:Int)<(n:Int):=by omega
        have HF:Hid (Lx.first s.data.toList=.err 2):=by
         show _=_
         rw[first_dig HNE.out,if_pos (TB.2 (Or.inr (hn1.1 hbig)))]
        clear hn1 hn2 hx TB
        go_wp2_with fail
        refine bodyPost_ret (v:=.tuple #[.agg #[.int .i64 0,.string ⟨#[]⟩,.int .i64 0],.int .i64 2]) (by simp[results,Tryz.results89,go_sem,a0,a1,a2]) rfl ?_
        exact⟨0,2,⟨#[]⟩,0,rfl,(((bW.setCell up _).setCell up _).setCell up _),Or.inr ⟨by omega,HF.out⟩⟩
       ·have hb2:¬ (2147483647:Int)<(n:Int):=by omega
        have HF:Hid (Lx.first s.data.toList=.tok 2 (s.extract 0 k).data.toList):=by
         show _=_
         rw[first_dig HNE.out,hx,if_neg]
         rw[TB]
         rintro (h | h)
         ·exact H48.out h
         ·exact hbig (hn1.2 h)
        clear hn1 hn2 hx TB
        go_wp2_with fail
        refine bodyPost_ret (v:=.tuple #[.agg #[.int .i64 2,.string (s.extract 0 k),.int .i64 p],.int .i64 0]) (by simp[results,Tryz.results89,go_sem,a0,a1,a2]) rfl ?_
        exact⟨2,0,_,p,rfl,(((bW.setCell up _).setCell up _).setCell up _),Or.inl ⟨rfl,rfl,HF.out⟩⟩
end Go.Proofs.YtmacepicoandkaaGreatDoor
