/- How an expression over atoms is reckoned of functions: what a round keeps. -/
import Derived.Test.YtmacepicoandkaaGreatDoorJ31
import Derived.Test.YtmacepicoandkaaGreatDoorJ32
set_option linter.unusedVariables false
set_option linter.unusedSimpArgs false
namespace Go.Proofs.YtmacepicoandkaaGreatDoor
open Go.RowKit Go.Shelf Tx
namespace Ux
section
variable {α : Type} {g : List α → Nd → α}
theorem pre_take (e:List Nd):∀ t,pre g (e.take t)=(pre g e).take t:=by
 induction e using snoc_ind with
 | h0=>intro t;simp[pre]
 | h1 e x ih =>
  intro t
  rcases Nat.lt_or_ge e.length t with h | h
  ·rw[List.take_of_length_le (by simp;omega),List.take_of_length_le (by rw[pre_len];simp;omega)]
  ·rw[List.take_append_of_le_length h,pre_snoc,List.take_append_of_le_length (by rw[pre_len];exact h),ih t]
theorem pre_get {e:List Nd} {t:Nat} {x:Nd} (h:e[t]?=some x):(pre g e)[t]?=some (g (pre g (e.take t)) x):=by
 have h1:=pre_one (g:=g) h
 rw[pre_take] at h1
 have ht:=(List.getElem?_eq_some_iff.1 h).1
 have h2:((pre g e).take (t+1))[t]?=(pre g e)[t]?:=by rw[List.getElem?_take,if_pos (by omega)]
 rw[← h2,h1,List.getElem?_append_right (by rw[pre_len,List.length_take];omega),pre_len,List.length_take,Nat.min_eq_left (by omega),Nat.sub_self];rfl
theorem pre_getD {e:List Nd} {t j:Nat} (hj:j<t) (d:α):(pre g (e.take t)).getD j d=(pre g e).getD j d:=by
 rw[pre_take,List.getD_eq_getElem?_getD,List.getD_eq_getElem?_getD,List.getElem?_take,if_pos hj]
end
theorem vals_get {l:List Bool} {e:List Nd} {t:Nat} {x:Nd} (h:e[t]?=some x):(vals l e).getD t false=valN l (vals l (e.take t)) x:=by
 rw[vals_pre,List.getD_eq_getElem?_getD,pre_get h];rfl
theorem vals_old {l:List Bool} {e:List Nd} {t j:Nat} (hj:j<t):(vals l (e.take t)).getD j false=(vals l e).getD j false:=pre_getD hj false
theorem valL_get {l:List Bool} {e:List Nd} (h1:1≤e.length):(vals l e).getD (e.length - 1) false=valL l e:=by
 have:=valL_at (l:=l) (e:=e) rfl h1
 rw[vals_pre,List.getD_eq_getElem?_getD,this];rfl
end Ux
def DenI (s:St) (r:Int) (φ:List Bool→Bool):Prop:=∃ f:Nat,r=(f:Int)∧f<s.ns.length∧∀ l:List Bool,l.length=s.vars→Dd.den s.ns (envOf l) f=φ l
theorem DenI.more {w w1 w2:World} {s s':St} {r:Int} {φ:List Bool→Bool} (h:DenI s r φ) (hm:More w s s') (h1:StoreAt w1 s) (h2:StoreAt w2 s'):DenI s' r φ:=by
 obtain⟨f,hr,hf,hd⟩:=h
 exact⟨f,hr,Nat.lt_of_lt_of_le hf hm.len,fun l hl=>by rw[hm.den h1 h2 _ hf];exact hd l (by rw[hl,hm.vars])⟩
structure RowS (s:St) (e:List Nd) (U:List Int) (t:Nat):Prop where
 len:U.length=e.length
 old:∀ (j:Nat),j<t→∃ r,U[j]?=some r∧DenI s r (fun l=>(Ux.vals l e).getD j false)
 atom:∀ (j:Nat) (x:Nd),e[j]?=some x→x.op=3→∃ r,U[j]?=some r∧DenI s r (fun l=>Ux.av l x)
structure RowA (s:St) (e:List Nd) (U:List Int) (t:Nat):Prop where
 len:U.length=e.length
 atom:∀ (j:Nat) (x:Nd),j<t→e[j]?=some x→x.op=3→∃ r,U[j]?=some r∧DenI s r (fun l=>Ux.av l x)
section
variable {s s' : St} {e : List Nd} {U : List Int} {t : Nat} {x : Nd} {w w1 w2 : World}
theorem RowS.more (h:RowS s e U t) (hm:More w s s') (h1:StoreAt w1 s) (h2:StoreAt w2 s'):RowS s' e U t :=
 ⟨h.len,fun j hj=>by obtain⟨r,a,b⟩:=h.old j hj;exact⟨r,a,b.more hm h1 h2⟩,fun j x hx h3=>by obtain⟨r,a,b⟩:=h.atom j x hx h3;exact⟨r,a,b.more hm h1 h2⟩⟩
theorem RowA.more (h:RowA s e U t) (hm:More w s s') (h1:StoreAt w1 s) (h2:StoreAt w2 s'):RowA s' e U t :=
 ⟨h.len,fun j x hj hx h3=>by obtain⟨r,a,b⟩:=h.atom j x hj hx h3;exact⟨r,a,b.more hm h1 h2⟩⟩
theorem RowA.start (s:St) (e:List Nd):RowA s e (List.replicate e.length 0) 0:=⟨by simp,fun j x hj=>by omega⟩
theorem RowA.skip (h:RowA s e U t) (hx:e[t]?=some x) (h3:x.op≠3):RowA s e U (t+1) :=
 ⟨h.len,fun j y hj hy q=>by
  by_cases hjt:j=t
  ·subst hjt;rw[hx] at hy;cases hy;exact absurd q h3
  ·exact h.atom j y (by omega) hy q⟩
theorem RowA.put (h:RowA s e U t) (hx:e[t]?=some x) {r:Int} (hr:DenI s r (fun l=>Ux.av l x)):RowA s e (U.set t r) (t+1) :=
 ⟨by rw[List.length_set];exact h.len,fun j y hj hy q=>by
  by_cases hjt:j=t
  ·subst hjt;rw[hx] at hy;cases hy
   have:=(List.getElem?_eq_some_iff.1 hx).1
   exact⟨r,by rw[List.getElem?_set,if_pos rfl,if_pos (by rw[h.len];exact this)],hr⟩
  ·obtain⟨r',a,b⟩:=h.atom j y (by omega) hy q
   exact⟨r',by rw[List.getElem?_set,if_neg (fun q=>hjt q.symm)];exact a,b⟩⟩
theorem RowA.done (h:RowA s e U e.length):RowS s e U 0 :=
 ⟨h.len,fun j hj=>by omega,fun j x hx h3=>h.atom j x (List.getElem?_eq_some_iff.1 hx).1 hx h3⟩
theorem RowS.skip (h:RowS s e U t) (hx:e[t]?=some x) (h3:x.op=3):RowS s e U (t+1) :=
 ⟨h.len,fun j hj=>by
  by_cases hjt:j=t
  ·subst hjt
   obtain⟨r,a,b⟩:=h.atom j x hx h3
   refine⟨r,a,?_⟩
   have:(fun l=>(Ux.vals l e).getD j false)=fun l=>Ux.av l x:=by
    funext l;rw[Ux.vals_get hx,Ux.valN_atom h3]
   rw[this];exact b
  ·exact h.old j (by omega),h.atom⟩
theorem RowS.put (h : RowS s e U t) (hx : e[t]? = some x) (h3 : x.op ≠ 3) {r : Int} (hr : DenI s r (fun l => Ux.valN l (Ux.vals l (e.take t)) x)) : RowS s e (U.set t r) (t + 1) :=
  ⟨by rw [List.length_set]; exact h.len, fun j hj => by
    by_cases hjt : j = t
    · subst hjt
      have := (List.getElem?_eq_some_iff.1 hx).1
      refine ⟨r, by rw [List.getElem?_set, if_pos rfl, if_pos (by rw [h.len]; exact this)], ?_⟩
      have q : (fun l => (Ux.vals l e).getD j false) = fun l => Ux.valN l (Ux.vals l (e.take j)) x := by funext l; rw [Ux.vals_get hx]
      rw [q]; exact hr
    · obtain ⟨r', a, b⟩ := h.old j (by omega)
      exact ⟨r', by rw [List.getElem?_set, if_neg (fun q => hjt q.symm)]; exact a, b⟩,
   fun j y hy q => by
    by_cases hjt : j = t
    · subst hjt; rw [hx] at hy; cases hy; exact absurd q h3
    · obtain ⟨r', a, b⟩ := h.atom j y hy q
      exact ⟨r', by rw [List.getElem?_set, if_neg (fun q => hjt q.symm)]; exact a, b⟩⟩
theorem RowS.kid (h:RowS s e U t) {j:Nat} (hj:j<t):∃ f:Nat,U[j]?=some (f:Int)∧f<s.ns.length∧∀ l:List Bool,l.length=s.vars→Dd.den s.ns (envOf l) f=(Ux.vals l (e.take t)).getD j false:=by
 obtain⟨r,a,f,rfl,hf,hd⟩:=h.old j hj
 exact⟨f,a,hf,fun l hl=>by rw[hd l hl,Ux.vals_old hj]⟩
end
structure RunI (B:Nat) (w0:World) (s0:St) (W:World) (s:St):Prop where
 store:StoreAt W s
 more:More w0 s0 s
 below:Below B w0 W
 bl:∀ k,s.bl k→B≤k
 fr:Fr s0.bl w0 W
theorem RunI.pure {B:Nat} {w0 W W':World} {s0 s:St} (h:RunI B w0 s0 W s) (hb:Below W.heap.size W W') (hB:B≤w0.heap.size):RunI B w0 s0 W' s :=
 ⟨h.store.below hb,h.more,h.below.trans (hb.mono (Nat.le_trans hB h.below.size)),h.bl,h.fr.trans (Fr.of_below hb (fun _=>False)) (fun _ _ q=>q.elim)⟩
theorem RunI.next {B:Nat} {w0 W W':World} {s0 s s':St} (h:RunI B w0 s0 W s) (hS:StoreAt W' s') (hM:More W s s') (hF:Fr s.bl W W') (hB:B≤w0.heap.size):RunI B w0 s0 W' s':=by
 have h0:w0.heap.size≤W.heap.size:=h.below.size
 refine⟨hS,h.more.trans hM h0,hF.below h.below (by omega) h.bl,fun k hk=>?_,h.fr.trans hF (fun k hk q=>h.more.bl k hk q)⟩
 rcases Nat.lt_or_ge k W.heap.size with hlt | hge
 ·exact h.bl k (hM.bl k hlt hk)
 ·omega
theorem not_bl {W:World} {s s':St} {k:Nat} (hM:More W s s') (hk:k<W.heap.size) (hn:¬ s.bl k):¬ s'.bl k:=fun h=>hn (hM.bl k hk h)
theorem Fr.blk {S:Nat→Prop} {W W':World} {b T:Nat} {cs:Array Value} (hF:Fr S W W') (h:Blk W b cs T) (hn:¬ S b):Blk W' b cs T:=(hF.block b h.lt hn).trans h
theorem Fr.rowL {α:Type} {f:α→Value} {T base g n:Nat} {W W':World} {L:List α} {S:Nat→Prop} (hF:Fr S W W') (h:RowL f T base W g n L) (hn:¬ S g):RowL f T base W' g n L :=
 hF.ownsRow h (fun k hk=>by cases hk;exact hn)
theorem Fr.of_set (W:World) (g i:Nat) (v:Value):Fr (fun k=>k=g) W (W.setCell ⟨g,i,none⟩ v) :=
 ⟨rfl,rfl,rfl,by simp,fun k _ hn=>by
  simp only[World.setCell,Array.getElem?_modify]
  rw[if_neg (fun e=>hn e.symm)]⟩
theorem RunI.set {B:Nat} {w0 W:World} {s0 s:St} (h:RunI B w0 s0 W s) {g i:Nat} {v:Value} (hg:B≤g∧w0.heap.size≤g) (hn:¬ s.bl g):RunI B w0 s0 (W.setCell ⟨g,i,none⟩ v) s :=
 ⟨h.store.kept (fun k hk=>by
   have:k≠g:=fun e=>hn (e ▸ hk)
   simp only[World.setCell,Array.getElem?_modify]
   rw[if_neg (fun e=>this e.symm)]),h.more,h.below.setCell hg.1 v,h.bl,h.fr.trans (Fr.of_set W g i v) (fun k hk q=>absurd hk (by rw[q];omega))⟩
theorem RunI.drew {B:Nat} {w0 W:World} {s0 s:St} (h:RunI B w0 s0 W s):RunI B w0 s0 W.drew s:=⟨h.store.below (Below.refl _ _).drew,h.more,h.below.drew,h.bl,h.fr.trans (Fr.of_below (Below.refl _ _).drew (fun _=>False)) (fun _ _ q=>q.elim)⟩
end Go.Proofs.YtmacepicoandkaaGreatDoor
