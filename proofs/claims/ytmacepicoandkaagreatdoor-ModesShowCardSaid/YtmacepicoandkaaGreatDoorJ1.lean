/- Tokens: the plain mathematics of a lexer over lists of bytes. Tokens: plain laws of the lexer. -/
set_option linter.unusedVariables false
set_option linter.unusedSimpArgs false
namespace Go.Proofs.YtmacepicoandkaaGreatDoor.Lx
abbrev Bs:=List UInt8
def isDig (c:UInt8):Bool:=48≤c&&c≤57
def isLet (c:UInt8):Bool:=(97≤c&&c≤122) || c==95
def isPt (c:UInt8):Bool:=isLet c || isDig c
def isBl (c:UInt8):Bool:=c==32 || c==9 || c==10 || c==13
def val (l:Bs):Nat:=l.foldl (fun n c=>10 * n+(c.toNat - 48)) 0
def words:List Bs:=[[97,110,100],[97,115,115,117,109,101],[98,111,111,108],[99,111,110,116,114,97,99,116],[100,105,118],[101,108,115,101],[101,110,100],[101,110,115,117,114,101],[102,97,108,108,98,97,99,107],[102,97,108,115,101],[103,104,111,115,116],[103,117,97,114,97,110,116,101,101],[104,105,115,116],[105,102],[105,109,112,111,114,116],[105,110,116],[108,101,116],[109,97,105,110],[109,111,100],[109,111,100,101],[110,111,100,101],[110,111,116],[111,110,99,101],[111,114],[112,114,101],[112,114,101,118],[114,101,113,117,105,114,101],[114,101,116,117,114,110,115],[115,105,110,99,101],[116,101,108],[116,104,101,110],[116,114,117,101],[118,97,114],[119,105,116,104,105,110],[120,111,114]]
def signs:List Bs:=[[45,62],[61,62],[60,61],[62,61],[60,62],[61],[60],[62],[43],[45],[42],[40],[41],[44],[59],[58]]
def isWord (t:Bs):Bool:=words.contains t
def isName (t:Bs):Bool:=!t.isEmpty&&decide (t.length≤40)&&t.all isPt && !(t.headD 0 |> isDig) && !isWord t
def tooBig (d:Bs):Bool:=decide (10<d.length) || decide (2147483647<val d) || (decide (1<d.length)&&d.headD 0==48)
inductive Tk where
 | err (e:Nat)
 | tok (k:Nat) (t:Bs)
def first (r:Bs):Tk :=
 let d:=r.takeWhile isDig
 if d.isEmpty then
  let p:=r.takeWhile isPt
  if isWord p then .tok 3 p else if isName p then .tok 1 p else if p.isEmpty then
   match signs.find? (·.isPrefixOf r) with
   | some t=>.tok 4 t
   | none=>.err 5
  else .err 5
 else if tooBig d then .err 2 else .tok 2 d
def afterLine (r:Bs):Bs:=(r.dropWhile (· != 10)).drop 1
structure R where
 k:Nat
 t:Bs
 m:Nat
def isCom (r:Bs):Bool:=[45,45].isPrefixOf r
def lexR:Nat→Bs→List R×Option (Nat×Nat)
 | 0,_=>([],none)
 | f+1,r =>
  let u:=r.dropWhile isBl
  if u.isEmpty then ([],none)
  else if isCom u then lexR f (afterLine u)
  else match first u with
   | .err e=>([],some (e,u.length))
   | .tok k t=>(⟨k,t,u.length⟩ :: (lexR f (u.drop t.length)).1,(lexR f (u.drop t.length)).2)
def lexS (s:Bs):List R×Option (Nat×Nat):=lexR (s.length+1) s
theorem signs_ne:∀ t∈signs,t≠[]∧t.length≤2∧∀ c∈t,isBl c=false∧isPt c=false:=by decide
theorem first_tok {r:Bs} {k:Nat} {t:Bs} (h:first r=.tok k t):t <+: r∧(t≠[]∨r=[]):=by
 unfold first at h
 simp only at h
 split at h
 ·split at h
  ·rename_i hd hw
   cases h
   refine⟨List.takeWhile_prefix _,?_⟩
   by_cases e:r.takeWhile isPt=[]
   ·rw[e] at hw;exact absurd hw (by decide)
   ·exact Or.inl e
  ·split at h
   ·rename_i hd hw hn
    cases h
    refine⟨List.takeWhile_prefix _,?_⟩
    by_cases e:r.takeWhile isPt=[]
    ·rw[e] at hn;exact absurd hn (by decide)
    ·exact Or.inl e
   ·split at h
    ·split at h
     ·rename_i t' hf
      cases h
      have h1:=List.find?_some hf
      have h2:=signs_ne _ (List.mem_of_find?_eq_some hf)
      exact⟨List.isPrefixOf_iff_prefix.1 h1,Or.inl h2.1⟩
     ·cases h
    ·cases h
 ·split at h
  ·cases h
  ·rename_i hd _
   cases h
   exact⟨List.takeWhile_prefix _,Or.inl (by simpa using hd)⟩
theorem drop_len {u t:Bs} (h:t <+: u) (hn:t≠[]):(u.drop t.length).length<u.length:=by
 have h1:=h.length_le
 have h2:0<t.length:=List.length_pos_iff.2 hn
 simp;omega
theorem after_len {u:Bs} (h:u≠[]):(afterLine u).length<u.length:=by
 unfold afterLine
 have:=(List.dropWhile_suffix (fun c:UInt8=>c != 10) (l:=u)).length_le
 have h2:0<u.length:=List.length_pos_iff.2 h
 simp only[List.length_drop]
 omega
theorem blank_len (r:Bs):(r.dropWhile isBl).length≤r.length:=(List.dropWhile_suffix _).length_le
theorem lexR_fuel:∀ (f g:Nat) (r:Bs),r.length<f→r.length<g→lexR f r=lexR g r
 | 0,_,_,h,_=>by omega
 | _,0,_,_,h=>by omega
 | f+1,g+1,r,hf,hg=>by
  have hb:=blank_len r
  simp only[lexR]
  split
  ·rfl
  ·rename_i hu
   have hu':r.dropWhile isBl≠[]:=by simpa using hu
   split
   ·have:=after_len hu'
    exact lexR_fuel f g _ (by omega) (by omega)
   ·split
    ·rfl
    ·rename_i k t ht
     obtain⟨h1,h2⟩:=first_tok ht
     have:=drop_len h1 (h2.resolve_right hu')
     rw[lexR_fuel f g _ (by omega) (by omega)]
theorem lexS_blank {c:UInt8} {r:Bs} (h:isBl c=true):lexS (c :: r)=lexS r:=by
 unfold lexS
 have e:∀ f,lexR (f+1) (c :: r)=lexR (f+1) r:=fun f=>by simp only[lexR,List.dropWhile_cons,h,if_true]
 show lexR ((r.length+1)+1) (c :: r)=_
 rw[e]
 exact lexR_fuel _ _ _ (by omega) (by omega)
theorem lexS_nil:lexS []=([],none):=rfl
theorem lexS_com {u:Bs} (hn:u.dropWhile isBl=u) (hu:u≠[]) (h:isCom u=true):lexS u=lexS (afterLine u):=by
 have:=after_len hu
 show lexR (u.length+1) u=_
 simp only[lexR,hn,h,if_true]
 rw[if_neg (by simpa using hu)]
 exact lexR_fuel _ _ _ (by omega) (by omega)
theorem lexS_tok {u:Bs} (hn:u.dropWhile isBl=u) (hu:u≠[]) (h:isCom u=false) {k:Nat} {t:Bs} (ht:first u=.tok k t) :
  lexS u=(⟨k,t,u.length⟩ :: (lexS (u.drop t.length)).1,(lexS (u.drop t.length)).2):=by
 obtain⟨h1,h2⟩:=first_tok ht
 have:=drop_len h1 (h2.resolve_right hu)
 show lexR (u.length+1) u=_
 simp only[lexR,hn,h,ht]
 rw[if_neg (by simpa using hu),if_neg (by simp)]
 have e:lexR u.length (u.drop t.length)=lexS (u.drop t.length):=lexR_fuel _ _ _ (by omega) (by omega)
 simp only[e]
theorem lexS_err {u:Bs} (hn:u.dropWhile isBl=u) (hu:u≠[]) (h:isCom u=false) {e:Nat} (ht:first u=.err e):lexS u=([],some (e,u.length)):=by
 show lexR (u.length+1) u=_
 simp only[lexR,hn,h,ht]
 rw[if_neg (by simpa using hu),if_neg (by simp)]
theorem drop_fix {u:Bs} (hn:u.dropWhile isBl=u) {c:UInt8} {q:Bs} (e:u=c :: q):isBl c=false:=by
 subst e
 rw[List.dropWhile_cons] at hn
 split at hn
 ·have:=congrArg List.length hn
  have h2:=blank_len q
  simp at this;omega
 ·rename_i h;simpa using h
theorem lex_ind {P:Bs→Prop} (h0:P []) (hb:∀ c r,isBl c=true→P r→P (c :: r)) (hc:∀ u,u.dropWhile isBl=u→u≠[]→isCom u=true→P (afterLine u)→P u)
  (he:∀ u e,u.dropWhile isBl=u→u≠[]→isCom u=false→first u=.err e→P u)
  (ht:∀ u k t,u.dropWhile isBl=u→u≠[]→isCom u=false→first u=.tok k t→t <+: u→t≠[]→P (u.drop t.length)→P u):∀ r,P r:=by
 have key:∀ n (r:Bs),r.length<n→P r:=by
  intro n
  induction n with
  | zero=>intro r h;omega
  | succ n ih =>
   intro r h
   cases r with
   | nil=>exact h0
   | cons c q =>
    by_cases hcb:isBl c=true
    ·exact hb c q hcb (ih q (by simp at h;omega))
    ·have hn:(c :: q).dropWhile isBl=c :: q:=by rw[List.dropWhile_cons,if_neg hcb]
     have hu:(c :: q:Bs)≠[]:=by simp
     cases hcom:isCom (c :: q)
     ·cases hf:first (c :: q) with
      | err e=>exact he _ e hn hu hcom hf
      | tok k t =>
       obtain⟨h1,h2⟩:=first_tok hf
       have h3:=h2.resolve_right hu
       have:=drop_len h1 h3
       exact ht _ k t hn hu hcom hf h1 h3 (ih _ (by omega))
     ·have:=after_len hu
      exact hc _ hn hu hcom (ih _ (by omega))
 exact fun r=>key _ r (Nat.lt_succ_self _)
end Go.Proofs.YtmacepicoandkaaGreatDoor.Lx
namespace Go.Proofs.YtmacepicoandkaaGreatDoor.Lx
theorem first_self {u:Bs} {k:Nat} {t:Bs} (h:first u=.tok k t):first t=.tok k t:=by
 have hp:=(first_tok h).1
 obtain⟨v,rfl⟩:=hp
 have tw:∀ (p:UInt8→Bool) (l:Bs),(l.takeWhile p).takeWhile p=l.takeWhile p:=by
  intro p l
  induction l with
  | nil=>rfl
  | cons x l ih=>by_cases hx:p x <;> simp[hx,ih]
 unfold first at h
 simp only at h
 split at h
 ·rename_i hd
  have hd2:(t.takeWhile isDig).isEmpty=true:=by
   cases t with
   | nil=>rfl
   | cons x t=>simp only[List.cons_append,List.takeWhile_cons] at hd ⊢;split at hd <;> simp_all
  split at h
  ·rename_i hw
   have e:List.takeWhile isPt (t++v)=t:=by injection h
   have e2:t.takeWhile isPt=t:=by have:=tw isPt (t++v);rwa [e] at this
   unfold first;simp only[hd2,if_true,e2]
   rw[e] at hw
   rw[if_pos hw];injection h with a _;rw[a]
  ·split at h
   ·rename_i hw hn
    have e:List.takeWhile isPt (t++v)=t:=by injection h
    have e2:t.takeWhile isPt=t:=by have:=tw isPt (t++v);rwa [e] at this
    unfold first;simp only[hd2,if_true,e2]
    rw[e] at hw hn
    rw[if_neg hw,if_pos hn];injection h with a _;rw[a]
   ·split at h
    ·rename_i hw hn he
     split at h
     ·rename_i t' hf
      cases h
      have hm:=List.mem_of_find?_eq_some hf
      obtain⟨hne,_,hch⟩:=signs_ne _ hm
      have e2:t.takeWhile isPt=[]:=by
       cases t with
       | nil=>rfl
       | cons x t=>rw[List.takeWhile_cons,if_neg (by simp[(hch x (by simp)).2])]
      unfold first;simp only[hd2,if_true,e2]
      rw[if_neg (by decide),if_neg (by decide)]
      simp only[List.isEmpty_nil,if_true]
      have:∀ l:List Bs,l.find? (·.isPrefixOf (t++v))=some t→l.find? (·.isPrefixOf t)=some t:=by
       intro l
       induction l with
       | nil=>intro h;simp at h
       | cons x l ih =>
        intro h
        simp only[List.find?_cons] at h ⊢
        split at h
        ·cases h
         rw[List.isPrefixOf_iff_prefix.2 (List.prefix_refl t)]
        ·rename_i hx
         have hx2:x.isPrefixOf t=false:=by
          by_cases q:x.isPrefixOf t=true
          ·have:=List.isPrefixOf_iff_prefix.1 q
           rw[List.isPrefixOf_iff_prefix.2 (this.trans (List.prefix_append t v))] at hx;cases hx
          ·exact Bool.eq_false_iff.2 q
         rw[hx2];exact ih h
      rw[this _ hf]
     ·cases h
    ·cases h
 ·rename_i hd
  split at h
  ·cases h
  ·rename_i hb
   have e:List.takeWhile isDig (t++v)=t:=by injection h
   have e2:t.takeWhile isDig=t:=by have:=tw isDig (t++v);rwa [e] at this
   unfold first;simp only[e2]
   rw[e] at hd hb
   rw[if_neg hd,if_neg hb];injection h with a _;rw[a]
structure Is (k:Nat) (t:Bs):Prop where
 self:first t=.tok k t
 ne:t≠[]
 com:isCom t=false
 bl:t.dropWhile isBl=t
theorem is_of {u:Bs} {k:Nat} {t:Bs} (hn:u.dropWhile isBl=u) (hc:isCom u=false) (h:first u=.tok k t) (ht:t≠[]):Is k t:=by
 obtain⟨v,hv⟩:=(first_tok h).1
 refine⟨first_self h,ht,?_,?_⟩
 ·by_cases q:isCom t=true
  ·have:=List.isPrefixOf_iff_prefix.1 q
   have h2:isCom u=true:=List.isPrefixOf_iff_prefix.2 (this.trans ⟨v,hv⟩)
   rw[hc] at h2;cases h2
  ·simpa using q
 ·cases t with
  | nil=>exact absurd rfl ht
  | cons c t =>
   have:=drop_fix hn (c:=c) (q:=t++v) (by rw[← hv];rfl)
   rw[List.dropWhile_cons,if_neg (by simp[this])]
theorem lexS_is (s:Bs):∀ x∈(lexS s).1,Is x.k x.t:=by
 refine lex_ind (P:=fun r=>∀ x∈(lexS r).1,Is x.k x.t) ?_ ?_ ?_ ?_ ?_ s
 ·intro x hx;rw[lexS_nil] at hx;simp at hx
 ·intro c r hb ih;rw[lexS_blank hb];exact ih
 ·intro u hn hu hc ih;rw[lexS_com hn hu hc];exact ih
 ·intro u e hn hu hc he x hx;rw[lexS_err hn hu hc he] at hx;simp at hx
 ·intro u k t hn hu hc ht _ hne ih x hx
  rw[lexS_tok hn hu hc ht] at hx
  simp only[List.mem_cons] at hx
  rcases hx with rfl | hx
  ·exact is_of hn hc ht hne
  ·exact ih x hx
def join:List Bs→Bs
 | []=>[]
 | [t]=>t
 | t :: l=>t++32 :: join l
def Chain (s:Bs):Nat→List R→Prop
 | _,[]=>True
 | e,x :: l=>e≤s.length - x.m∧x.m≤s.length∧x.t≠[]∧x.t <+: s.drop (s.length - x.m)∧Chain s (s.length - x.m+x.t.length) l
theorem Chain.mono {s:Bs} {e e':Nat} (h:e'≤e):∀ {l:List R},Chain s e l→Chain s e' l
 | [],_=>trivial
 | _ :: _,⟨a,b⟩=>⟨Nat.le_trans h a,b⟩
theorem name_not_word {s:Bs} (h:isName s=true):isWord s=false:=by
 simp only[isName,Bool.and_eq_true,Bool.not_eq_true'] at h;exact h.2
end Go.Proofs.YtmacepicoandkaaGreatDoor.Lx
namespace Go.Proofs.YtmacepicoandkaaGreatDoor
structure Tok where
 k:Nat
 t:ByteArray
 p:Nat
end Go.Proofs.YtmacepicoandkaaGreatDoor
