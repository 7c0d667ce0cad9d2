/- Walks: ite. Walks: Var, Ite, Not, And, Or. Walks: Value, Size, Const, New. -/
import Derived.Test.YtmacepicoandkaaGreatDoorJ26
set_option linter.unusedVariables false
set_option linter.unusedSimpArgs false
namespace Go.Proofs.YtmacepicoandkaaGreatDoor
open Go.RowKit
set_option maxRecDepth 20000
def ItePost (w:World) (s:St) (f g h:Nat) (e:Ending) (w':World):Prop :=
 ∃ (r er:Nat) (s':St),e=.returned (.tuple #[.int .i64 r,.int .i64 er])∧StoreAt w' s'∧More w s s'∧Fr s.bl w w'∧r<s'.ns.length ∧
  s'.ns.length+1≤s.ns.length+2 ^ (s.vars - min (Dd.T s.ns f) (min (Dd.T s.ns g) (Dd.T s.ns h))) ∧
  ((er=0∧min (Dd.T s.ns f) (min (Dd.T s.ns g) (Dd.T s.ns h))≤Dd.T s'.ns r∧∀ env,Dd.den s'.ns env r=if Dd.den s.ns env f then Dd.den s.ns env g else Dd.den s.ns env h) ∨
   (er=18∧r=0∧s'.ns.length=s.budget))
set_option maxHeartbeats 400000 in
theorem ite_one (w:World) (s:St) (_h:StoreAt w s) (g k:Nat) :
  Calls Tryz.prog 57 #[.pointer (some ⟨s.sb,0,none⟩),.int .i64 1,.int .i64 g,.int .i64 k] w fun e w'=>e=.returned (.tuple #[.int .i64 g,.int .i64 0])∧w'=w:=by
 go_enter Tryz.func57,Tryz.ntmps57
 go_wp2_with fail
 go_ret2
 exact⟨rfl,rfl⟩
set_option maxHeartbeats 400000 in
theorem ite_zero (w:World) (s:St) (_h:StoreAt w s) (g k:Nat) :
  Calls Tryz.prog 57 #[.pointer (some ⟨s.sb,0,none⟩),.int .i64 0,.int .i64 g,.int .i64 k] w fun e w'=>e=.returned (.tuple #[.int .i64 k,.int .i64 0])∧w'=w:=by
 go_enter Tryz.func57,Tryz.ntmps57
 go_wp2_with fail
 go_ret2
 exact⟨rfl,rfl⟩
set_option maxHeartbeats 400000 in
theorem ite_same (w:World) (s:St) (_h:StoreAt w s) (f g:Nat) (hf:2≤f) :
  Calls Tryz.prog 57 #[.pointer (some ⟨s.sb,0,none⟩),.int .i64 f,.int .i64 g,.int .i64 g] w fun e w'=>e=.returned (.tuple #[.int .i64 g,.int .i64 0])∧w'=w:=by
 have h1:((f:Int)==1)=false:=by simp;omega
 have h0:((f:Int)==0)=false:=by simp;omega
 go_enter Tryz.func57,Tryz.ntmps57
 go_wp2_with fail
 go_ret2
 exact⟨rfl,rfl⟩
set_option maxHeartbeats 400000 in
theorem ite_hit (w:World) (s:St) (h:StoreAt w s) (f g k n:Nat) (hf:2≤f) (hgk:g≠k) (hq:look (f,g,k) s.ites=some n) :
  Calls Tryz.prog 57 #[.pointer (some ⟨s.sb,0,none⟩),.int .i64 f,.int .i64 g,.int .i64 k] w fun e w'=>e=.returned (.tuple #[.int .i64 n,.int .i64 0])∧Below w.heap.size w w':=by
 have h1:((f:Int)==1)=false:=by simp;omega
 have h0:((f:Int)==0)=false:=by simp;omega
 have h3:((g:Int)==(k:Int))=false:=by simp;omega
 have c4:=h.c4
 have hlt:s.sb<w.heap.size:=h.lt (Or.inl rfl)
 have hlk:∀ m,(Instr.lookup 103 (.map (some s.ib)) (.agg #[.int .i64 f,.int .i64 g,.int .i64 k]) true).run Tryz.prog ((w.alloc (.cells #[.int .i64 f,.int .i64 g,.int .i64 k] 142)).drewN m)=.ok (.tuple #[.int .i64 n,.bool true]) ((w.alloc (.cells #[.int .i64 f,.int .i64 g,.int .i64 k] 142)).drewN m):=by
  intro m
  have hm:MapIs tri vInt ((w.alloc (.cells #[.int .i64 f,.int .i64 g,.int .i64 k] 142)).drewN m) s.ib s.ites:=h.ites.of_block (Below.heap_alloc _ _ _ h.ites.lt)
  have:=hm.lookup keyTriple Tryz.underlying103 zeroInt (f,g,k)
  rw[hq] at this
  exact this
 go_enter Tryz.func57,Tryz.ntmps57
 go_wp2_with fail
 go_quiet (fail)
 go_wp2_with fail
 go_ret2
 exact⟨rfl,below_drewN ((Below.refl _ _).alloc (Nat.le_refl _) _) _⟩
structure Key (w W:World) (s0 s:St) (f g k:Nat):Prop where
 store:StoreAt W s
 more:More w s0 s
 fr:Fr s0.bl w W
 key:W.heap[w.heap.size]?=some (.cells #[.int .i64 f,.int .i64 g,.int .i64 k] 142 (0,0))
theorem Key.not_bl {w W:World} {s0 s:St} {f g k:Nat} (h:Key w W s0 s f g k):¬ s.bl w.heap.size:=by
 intro hb
 rcases hb with e | e | e | e
 ·have:=h.store.cells;rw[← e,h.key] at this;simp at this
 ·obtain⟨_,h2⟩:=h.store.own
  rcases h2 with ⟨h2,_⟩ | ⟨g',cap,cur,hv,_,hh,_⟩
  ·simp at h2
  ·have eg:g'=s.nb:=by simp at hv;exact hv.1.symm
   rw[eg,← e,h.key] at hh;simp at hh
 ·obtain⟨es,c,hh,_⟩:=h.store.numbers
  rw[← e,h.key] at hh;simp at hh
 ·obtain⟨es,c,hh,_⟩:=h.store.ites
  rw[← e,h.key] at hh;simp at hh
theorem Key.step {w W W':World} {s0 s s':St} {f g k:Nat} (h:Key w W s0 s f g k) (hS:StoreAt W' s') (hM:More W s s') (hF:Fr s.bl W W'):Key w W' s0 s' f g k :=
 ⟨hS,h.more.trans hM h.fr.size,h.fr.trans hF fun i hi q=>h.more.bl i hi q,by
  rw[hF.block _ (Array.getElem?_eq_some_iff.1 h.key).1 h.not_bl];exact h.key⟩
theorem Key.below {w W W':World} {s0 s:St} {f g k:Nat} (h:Key w W s0 s f g k) (hb:Below W.heap.size W W'):Key w W' s0 s f g k :=
 h.step (h.store.below hb) (More.refl _ _) (Fr.of_below hb _)
theorem pow_half {a:Nat} (h:0<a):2 ^ a=2 * 2 ^ (a - 1):=by
 obtain⟨b,rfl⟩ : ∃ b,a=b+1:=⟨a - 1,by omega⟩
 rw[Nat.pow_succ,Nat.add_sub_cancel];omega
theorem ite_sem {vars:Nat} {ns:List Dd.Nd} (W:Dd.WF vars ns) {f g k t:Nat} (hf:f<ns.length) (hg:g<ns.length) (hk:k<ns.length) (tf:t≤Dd.T ns f) (tg:t≤Dd.T ns g) (tk:t≤Dd.T ns k) (htv:t<vars) (env:Nat→Bool) :
  (if env t then (if Dd.den ns env (Dd.half ns f t true) then Dd.den ns env (Dd.half ns g t true) else Dd.den ns env (Dd.half ns k t true))
   else (if Dd.den ns env (Dd.half ns f t false) then Dd.den ns env (Dd.half ns g t false) else Dd.den ns env (Dd.half ns k t false))) =
  if Dd.den ns env f then Dd.den ns env g else Dd.den ns env k:=by
 rw[Dd.half_den W env hf tf htv,Dd.half_den W env hg tg htv,Dd.half_den W env hk tk htv,Dd.half_den W env hf tf htv,Dd.half_den W env hg tg htv,Dd.half_den W env hk tk htv]
 cases e:env t
 ·have:Dd.upd env t false=env:=by rw[← e];exact Dd.upd_same env t
  rw[this];simp
 ·have:Dd.upd env t true=env:=by rw[← e];exact Dd.upd_same env t
  rw[this];simp
def St.knows (s:St) (x:Dd.Nd) (n:Nat):St:={ s with ites:=putAt x n s.ites }
theorem StoreAt.knows {W W':World} {s:St} (h:StoreAt W s) {x:Dd.Nd} {n:Nat} (hm:MapIs tri vInt W' s.ib (putAt x n s.ites)) (hg:W.grownBy W' (some s.ib))
  (h1:x.1<s.ns.length) (h2:x.2.1<s.ns.length) (h3:x.2.2<s.ns.length) (h4:n<s.ns.length) (h5:min (Dd.T s.ns x.1) (min (Dd.T s.ns x.2.1) (Dd.T s.ns x.2.2))≤Dd.T s.ns n)
  (h6:∀ env,Dd.den s.ns env n=if Dd.den s.ns env x.1 then Dd.den s.ns env x.2.1 else Dd.den s.ns env x.2.2) :
  StoreAt W' (s.knows x n)∧More W s (s.knows x n)∧Fr s.bl W W':=by
 obtain⟨a1,a2,a3,a4,a5,a6⟩:=h.apart
 have hk:∀ k,k<W.heap.size→k≠s.ib→W'.heap[k]?=W.heap[k]?:=fun k hk hn=>hg.block k hk (by simpa using hn)
 refine⟨⟨?_,?_,?_,hm,h.apart,h.wf,h.small,h.room,h.most,?_⟩,⟨rfl,rfl,rfl,Or.inl rfl,rfl,rfl,[],by simp[St.knows]⟩,⟨hg.os,hg.tape,hg.output,hg.size,fun k hk' hn=>hk k hk' (fun q=>hn (Or.inr (Or.inr (Or.inr q))))⟩⟩
 ·exact (hk s.sb (h.lt (Or.inl rfl)) a3).trans h.cells
 ·exact h.own.kept hg (Or.inr (by simp[Value.ownBlock];exact a5))
 ·exact h.numbers.of_block (hk _ h.numbers.lt a6)
 ·intro y m hy
  rcases mem_putAt hy with e | e
  ·simp at e;obtain⟨rfl,rfl⟩:=e;exact⟨h1,h2,h3,h4,h5,h6⟩
  ·exact h.memo y m e
set_option maxHeartbeats 1000000 in
theorem ite_rec (m : Nat) (ih : ∀ (f g k : Nat) (w : World) (s : St), StoreAt w s → f < s.ns.length → g < s.ns.length → k < s.ns.length → s.vars - min (Dd.T s.ns f) (min (Dd.T s.ns g) (Dd.T s.ns k)) ≤ m →
      Calls Tryz.prog 57 #[.pointer (some ⟨s.sb, 0, none⟩), .int .i64 f, .int .i64 g, .int .i64 k] w (ItePost w s f g k))
    (w : World) (s : St) (h : StoreAt w s) (f g k : Nat) (hf2 : 2 ≤ f) (hgk : g ≠ k) (hq : look (f, g, k) s.ites = none) (hf : f < s.ns.length) (hg : g < s.ns.length) (hk : k < s.ns.length)
    (hm : s.vars - min (Dd.T s.ns f) (min (Dd.T s.ns g) (Dd.T s.ns k)) ≤ m + 1) :
    Calls Tryz.prog 57 #[.pointer (some ⟨s.sb, 0, none⟩), .int .i64 f, .int .i64 g, .int .i64 k] w (ItePost w s f g k) := by
  have h1 : ((f : Int) == 1) = false := by simp; omega
  have h0 : ((f : Int) == 0) = false := by simp; omega
  have h3 : ((g : Int) == (k : Int)) = false := by simp; omega
  have hlen := h.len
  have c4 := h.c4
  have c2 := h.c2
  have nf := h.n0 hf
  have ng := h.n0 hg
  have nk := h.n0 hk
  have hlt : s.sb < w.heap.size := h.lt (Or.inl rfl)
  have hlt2 : s.nb < w.heap.size := h.lt (Or.inr (Or.inl rfl))
  have hlk : ∀ m, (Instr.lookup 103 (.map (some s.ib)) (.agg #[.int .i64 f, .int .i64 g, .int .i64 k]) true).run Tryz.prog ((w.alloc (.cells #[.int .i64 f, .int .i64 g, .int .i64 k] 142)).drewN m) = .ok (.tuple #[.int .i64 0, .bool false]) ((w.alloc (.cells #[.int .i64 f, .int .i64 g, .int .i64 k] 142)).drewN m) := by
    intro m
    have hm : MapIs tri vInt ((w.alloc (.cells #[.int .i64 f, .int .i64 g, .int .i64 k] 142)).drewN m) s.ib s.ites := h.ites.of_block (Below.heap_alloc _ _ _ h.ites.lt)
    have := hm.lookup keyTriple Tryz.underlying103 zeroInt (f, g, k)
    rw [hq] at this
    exact this
  obtain ⟨t, ht⟩ : ∃ t, t = min (Dd.T s.ns f) (min (Dd.T s.ns g) (Dd.T s.ns k)) := ⟨_, rfl⟩
  have hmin3 : ∀ (ts : Array TypeId) (t' : TypeId) (W : World), (Builtin.min_ ts t' #[.int .i64 (Dd.T s.ns f), .int .i64 (Dd.T s.ns g), .int .i64 (Dd.T s.ns k)]).run Tryz.prog W = .ok (.int .i64 t) W := by
    intro ts t' W
    have e : (t : Int) = (if (Dd.T s.ns k : Int) < (if (Dd.T s.ns g : Int) < (Dd.T s.ns f : Int) then (Dd.T s.ns g : Int) else (Dd.T s.ns f : Int)) then (Dd.T s.ns k : Int) else (if (Dd.T s.ns g : Int) < (Dd.T s.ns f : Int) then (Dd.T s.ns g : Int) else (Dd.T s.ns f : Int))) := by
      repeat' split
      all_goals omega
    rw [e]
    exact run_min_int3 _ _ _ _ _ _ _ _ _
  have HT : Hid (t = min (Dd.T s.ns f) (min (Dd.T s.ns g) (Dd.T s.ns k))) := ht
  clear ht
  go_enter Tryz.func57, Tryz.ntmps57
  go_wp2_with fail
  go_quiet (fail)
  go_wp2_with fail
  go_quiet (fail)
  go_wp2_with fail
  generalize hW : World.drewN (w.alloc (Obj.cells #[Value.int IntKind.i64 ↑f, Value.int IntKind.i64 ↑g, Value.int IntKind.i64 ↑k] 142)) _ = W
  have hBW : Below w.heap.size w W := by rw [← hW]; exact below_drewN ((Below.refl _ _).alloc (Nat.le_refl _) _) _
  have K0 : Key w W s s f g k := ⟨h.below hBW, More.refl _ _, Fr.of_below hBW _, by rw [← hW]; exact heap_alloc_new w _⟩
  have htf : t ≤ Dd.T s.ns f := by have := HT.out; omega
  have htg : t ≤ Dd.T s.ns g := by have := HT.out; omega
  have htk : t ≤ Dd.T s.ns k := by have := HT.out; omega
  have htv : t < s.vars := by have := h.wf.nd f hf2 hf; omega
  have hmt : s.vars - t ≤ m + 1 := by have := HT.out; omega
  clear hW hBW c4 c2 nf ng nk hlk hmin3 hq hm
  refine (half_any W s K0.store f t false hf).mono ?_
  rintro e W1 ⟨rfl, hb1⟩
  have K1 := K0.below hb1
  clear hb1 K0
  go_wp2_with fail
  refine (half_any W1 s K1.store g t false hg).mono ?_
  rintro e W2 ⟨rfl, hb1⟩
  have K2 := K1.below hb1
  clear hb1 K1
  go_wp2_with fail
  refine (half_any W2 s K2.store k t false hk).mono ?_
  rintro e W3 ⟨rfl, hb1⟩
  have K3 := K2.below hb1
  clear hb1 K2
  go_wp2_with fail
  have q1 := Dd.half_T (b := false) h.wf hf htf htv
  have q2 := Dd.half_T (b := false) h.wf hg htg htv
  have q3 := Dd.half_T (b := false) h.wf hk htk htv
  refine (ih _ _ _ W3 s K3.store (Dd.half_lt h.wf hf) (Dd.half_lt h.wf hg) (Dd.half_lt h.wf hk) (by omega)).mono ?_
  rintro e W4 ⟨r, er, s1, rfl, hS1, hM1, hF1, hr, hcnt, hor⟩
  have K4 := K3.step hS1 hM1 hF1
  have hv1 := hM1.vars
  have hbd1 := hM1.budget
  have hp1 : 2 ^ (s.vars - min (Dd.T s.ns (Dd.half s.ns f t false)) (min (Dd.T s.ns (Dd.half s.ns g t false)) (Dd.T s.ns (Dd.half s.ns k t false)))) ≤ 2 ^ (s.vars - t - 1) := Nat.pow_le_pow_right (by omega) (by omega)
  have hp : 2 ^ (s.vars - t) = 2 * 2 ^ (s.vars - t - 1) := pow_half (by omega)
  have HC : Hid (s1.ns.length + 1 ≤ s.ns.length + 2 ^ (s.vars - t - 1)) := by show _ ≤ _; omega
  have HP : Hid (2 ^ (s.vars - t) = 2 * 2 ^ (s.vars - t - 1)) := hp
  have HV : Hid (s1.vars = s.vars) := hv1
  have HB : Hid (s1.budget = s.budget) := hbd1
  clear hcnt hp1 hp K3 hv1 hbd1
  rcases hor with ⟨rfl, hT1, hd1⟩ | ⟨rfl, rfl, hfull⟩
  · go_wp2_with fail
    have l1 := hM1.len
    have HH := half_any W4 s1 K4.store f t true (by omega)
    rw [K4.more.sb] at HH
    refine HH.mono ?_
    clear HH
    rintro e W5 ⟨rfl, hb1⟩
    have K5 := K4.below hb1
    clear hb1 K4
    go_wp2_with fail
    have HH := half_any W5 s1 K5.store g t true (by omega)
    rw [K5.more.sb] at HH
    refine HH.mono ?_
    clear HH
    rintro e W6 ⟨rfl, hb1⟩
    have K6 := K5.below hb1
    clear hb1 K5
    go_wp2_with fail
    have HH := half_any W6 s1 K6.store k t true (by omega)
    rw [K6.more.sb] at HH
    refine HH.mono ?_
    clear HH
    rintro e W7 ⟨rfl, hb1⟩
    have K7 := K6.below hb1
    clear hb1 K6
    go_wp2_with fail
    have q4 := Dd.half_T (b := true) h.wf hf htf htv
    have q5 := Dd.half_T (b := true) h.wf hg htg htv
    have q6 := Dd.half_T (b := true) h.wf hk htk htv
    have p4 := Dd.half_lt (b := true) (t := t) h.wf hf
    have p5 := Dd.half_lt (b := true) (t := t) h.wf hg
    have p6 := Dd.half_lt (b := true) (t := t) h.wf hk
    have HH := ih (Dd.half s1.ns f t true) (Dd.half s1.ns g t true) (Dd.half s1.ns k t true) W7 s1 K7.store
      (by rw [hM1.half hf]; omega) (by rw [hM1.half hg]; omega) (by rw [hM1.half hk]; omega)
      (by rw [hM1.half hf, hM1.half hg, hM1.half hk, hM1.T p4, hM1.T p5, hM1.T p6, HV.out]; omega)
    rw [K7.more.sb] at HH
    refine HH.mono ?_
    clear HH
    rintro e W8 ⟨r2, er, s2, rfl, hS2, hM2, hF2, hr2, hcnt, hor⟩
    rw [hM1.half hf, hM1.half hg, hM1.half hk, hM1.T p4, hM1.T p5, hM1.T p6, HV.out] at hcnt
    have K8 := K7.step hS2 hM2 hF2
    have hp1 : 2 ^ (s.vars - min (Dd.T s.ns (Dd.half s.ns f t true)) (min (Dd.T s.ns (Dd.half s.ns g t true)) (Dd.T s.ns (Dd.half s.ns k t true)))) ≤ 2 ^ (s.vars - t - 1) := Nat.pow_le_pow_right (by omega) (by omega)
    have HC2 : Hid (s2.ns.length + 1 ≤ s1.ns.length + 2 ^ (s.vars - t - 1)) := by show _ ≤ _; omega
    have HV2 : Hid (s2.vars = s.vars) := hM2.vars.trans HV.out
    have HB2 : Hid (s2.budget = s.budget) := hM2.budget.trans HB.out
    have l2 := hM2.len
    clear hcnt hp1 K7
    rcases hor with ⟨rfl, hT2, hd2⟩ | ⟨rfl, rfl, hfull⟩
    · rw [hM1.half hf, hM1.half hg, hM1.half hk, hM1.T p4, hM1.T p5, hM1.T p6] at hT2
      have T1 : t < Dd.T s2.ns r := by rw [hM2.T hr]; omega
      have T2 : t < Dd.T s2.ns r2 := by omega
      go_wp2_with fail
      have HH := node_any W8 s2 K8.store t r r2 (by omega) hr2 (by rw [HV2.out]; exact htv) T1 T2
      rw [K8.more.sb] at HH
      refine HH.mono ?_
      clear HH
      rintro e W9 ⟨r3, er, s3, rfl, hS3, hM3, hF3, hcnt, hr3, hor⟩
      have K9 := K8.step hS3 hM3 hF3
      have l3 := hM3.len
      have HC3 : Hid (s3.ns.length + 1 ≤ s.ns.length + 2 ^ (s.vars - t)) := by
        show _ ≤ _
        have h1 := HC.out; have h2 := HC2.out; have h3 := HP.out; omega
      clear K8 hcnt
      rcases hor with ⟨rfl, hT3, hd3⟩ | ⟨rfl, rfl, hfull⟩
      · have hmin : min (Dd.T s3.ns f) (min (Dd.T s3.ns g) (Dd.T s3.ns k)) ≤ Dd.T s3.ns r3 := by
          rw [K9.more.T hf, K9.more.T hg, K9.more.T hk, ← HT.out]; exact hT3
        have hsem : ∀ env, Dd.den s3.ns env r3 = if Dd.den s3.ns env f then Dd.den s3.ns env g else Dd.den s3.ns env k := by
          intro env
          rw [hd3 env, hM2.den hS1 hS2 env hr, hd1 env, hd2 env, hM1.half hf, hM1.half hg, hM1.half hk, hM1.den h hS1 env p4, hM1.den h hS1 env p5, hM1.den h hS1 env p6,
            K9.more.den h hS3 env hf, K9.more.den h hS3 env hg, K9.more.den h hS3 env hk]
          exact ite_sem h.wf hf hg hk htf htg htk htv env
        have c4 := hS3.c4
        rw [K9.more.sb] at c4
        have k0 : W9.cell? ⟨w.heap.size, 0, none⟩ = some (.int .i64 f) := by simp [World.cell?, K9.key]
        have k1 : W9.cell? ⟨w.heap.size, 1, none⟩ = some (.int .i64 g) := by simp [World.cell?, K9.key]
        have k2 : W9.cell? ⟨w.heap.size, 2, none⟩ = some (.int .i64 k) := by simp [World.cell?, K9.key]
        go_wp2_with fail
        go_still_tail 6, (by kernel_rfl)
        refine wpList_update_is rfl _ _ _ _ rfl keyTriple Tryz.underlying103 hS3.ites rfl (f, g, k) r3 rfl rfl ?_
        intro W10 hm10 hg10
        obtain ⟨hS, hM, hF⟩ := hS3.knows hm10 ⟨hg10.os, hg10.tape, hg10.output, hg10.size, hg10.block⟩ (by show f < _; omega) (by show g < _; omega) (by show k < _; omega) hr3 hmin hsem
        have K10 := K9.step hS hM hF
        clear c4 k0 k1 k2
        go_wp2_with fail
        go_ret2
        refine ⟨r3, 0, _, rfl, hS, K10.more, K10.fr, hr3, ?_, Or.inl ⟨rfl, ?_, fun env => ?_⟩⟩
        · rw [← HT.out]; exact HC3.out
        · rw [← HT.out]; exact hT3
        · refine (hsem env).trans ?_
          rw [K9.more.den h hS3 env hf, K9.more.den h hS3 env hg, K9.more.den h hS3 env hk]
      · have HF : Hid (s2.ns.length = s2.budget) := hfull
        clear hfull
        go_wp2_with fail
        go_ret2
        refine ⟨0, 18, s3, rfl, hS3, K9.more, K9.fr, by omega, ?_, Or.inr ⟨rfl, rfl, ?_⟩⟩
        · rw [← HT.out]; exact HC3.out
        · have h1 := HF.out; have h2 := HB2.out; have h3 := hS3.room; have h4 := hM3.budget; omega
    · have HF : Hid (s2.ns.length = s1.budget) := hfull
      clear hfull
      go_wp2_with fail
      go_ret2
      refine ⟨0, 18, s2, rfl, hS2, K8.more, K8.fr, by omega, ?_, Or.inr ⟨rfl, rfl, HF.out.trans HB.out⟩⟩
      rw [← HT.out, HP.out]; have h1 := HC.out; have h2 := HC2.out; omega
  · have HF : Hid (s1.ns.length = s.budget) := hfull
    clear hfull
    go_wp2_with fail
    go_ret2
    refine ⟨0, 18, s1, rfl, hS1, K4.more, K4.fr, by omega, ?_, Or.inr ⟨rfl, rfl, HF.out⟩⟩
    rw [← HT.out, HP.out]; have := HC.out; omega
theorem ite_any : ∀ (m f g k : Nat) (w : World) (s : St), StoreAt w s → f < s.ns.length → g < s.ns.length → k < s.ns.length → s.vars - min (Dd.T s.ns f) (min (Dd.T s.ns g) (Dd.T s.ns k)) ≤ m →
      Calls Tryz.prog 57 #[.pointer (some ⟨s.sb, 0, none⟩), .int .i64 f, .int .i64 g, .int .i64 k] w (ItePost w s f g k) := by
  intro m
  have base : ∀ (f g k : Nat) (w : World) (s : St), StoreAt w s → f < s.ns.length → g < s.ns.length → k < s.ns.length → f ≤ 1 →
      Calls Tryz.prog 57 #[.pointer (some ⟨s.sb, 0, none⟩), .int .i64 f, .int .i64 g, .int .i64 k] w (ItePost w s f g k) := by
    intro f g k w s h hf hg hk hf1
    have pos : 0 < 2 ^ (s.vars - min (Dd.T s.ns f) (min (Dd.T s.ns g) (Dd.T s.ns k))) := Nat.pow_pos (by omega)
    have : f = 0 ∨ f = 1 := by omega
    rcases this with rfl | rfl
    · refine (ite_zero w s h g k).mono ?_
      rintro _ w' ⟨rfl, rfl⟩
      exact ⟨k, 0, s, rfl, h, More.refl _ _, Fr.refl _ _, hk, by omega, Or.inl ⟨rfl, by omega, fun env => by rw [Dd.den_zero]; simp⟩⟩
    · refine (ite_one w s h g k).mono ?_
      rintro _ w' ⟨rfl, rfl⟩
      exact ⟨g, 0, s, rfl, h, More.refl _ _, Fr.refl _ _, hg, by omega, Or.inl ⟨rfl, by omega, fun env => by rw [Dd.den_one]; simp⟩⟩
  have same : ∀ (f g : Nat) (w : World) (s : St), StoreAt w s → f < s.ns.length → g < s.ns.length → 2 ≤ f →
      Calls Tryz.prog 57 #[.pointer (some ⟨s.sb, 0, none⟩), .int .i64 f, .int .i64 g, .int .i64 g] w (ItePost w s f g g) := by
    intro f g w s h hf hg hf2
    have pos : 0 < 2 ^ (s.vars - min (Dd.T s.ns f) (min (Dd.T s.ns g) (Dd.T s.ns g))) := Nat.pow_pos (by omega)
    refine (ite_same w s h f g hf2).mono ?_
    rintro _ w' ⟨rfl, rfl⟩
    exact ⟨g, 0, s, rfl, h, More.refl _ _, Fr.refl _ _, hg, by omega, Or.inl ⟨rfl, by omega, fun env => by simp⟩⟩
  have hit : ∀ (f g k n : Nat) (w : World) (s : St), StoreAt w s → f < s.ns.length → g < s.ns.length → k < s.ns.length → 2 ≤ f → g ≠ k → look (f, g, k) s.ites = some n →
      Calls Tryz.prog 57 #[.pointer (some ⟨s.sb, 0, none⟩), .int .i64 f, .int .i64 g, .int .i64 k] w (ItePost w s f g k) := by
    intro f g k n w s h hf hg hk hf2 hgk hq
    have pos : 0 < 2 ^ (s.vars - min (Dd.T s.ns f) (min (Dd.T s.ns g) (Dd.T s.ns k))) := Nat.pow_pos (by omega)
    obtain ⟨b1, b2, b3, b4, b5, b6⟩ := h.memo _ _ (look_mem hq)
    refine (ite_hit w s h f g k n hf2 hgk hq).mono ?_
    rintro _ w' ⟨rfl, hb⟩
    exact ⟨n, 0, s, rfl, h.below hb, More.refl _ _, Fr.of_below hb _, b4, by omega, Or.inl ⟨rfl, b5, b6⟩⟩
  induction m with
  | zero =>
    intro f g k w s h hf hg hk hm
    by_cases hf1 : f ≤ 1
    · exact base f g k w s h hf hg hk hf1
    · have := h.wf.nd f (by omega) hf; omega
  | succ m ih =>
    intro f g k w s h hf hg hk hm
    by_cases hf1 : f ≤ 1
    · exact base f g k w s h hf hg hk hf1
    · by_cases hgk : g = k
      · subst hgk; exact same f g w s h hf hg (by omega)
      · rcases hq : look (f, g, k) s.ites with _ | n
        · exact ite_rec m ih w s h f g k (by omega) hgk hq hf hg hk hm
        · exact hit f g k n w s h hf hg hk (by omega) hgk hq
end Go.Proofs.YtmacepicoandkaaGreatDoor
namespace Go.Proofs.YtmacepicoandkaaGreatDoor
open Go.RowKit
set_option maxRecDepth 20000
def FnPost (cnt:Nat) (sem:(Nat→Bool)→Bool) (w:World) (s:St) (e:Ending) (w':World):Prop :=
 ∃ (r er:Nat) (s':St),e=.returned (.tuple #[.int .i64 r,.int .i64 er])∧StoreAt w' s'∧More w s s'∧Fr s.bl w w'∧r<s'.ns.length∧s'.ns.length≤s.ns.length+cnt ∧
  ((er=0∧∀ env,Dd.den s'.ns env r=sem env)∨(er=18∧r=0∧s'.ns.length=s.budget))
theorem ItePost.fn {w:World} {s:St} {f g k:Nat} {e:Ending} {w':World} (h:ItePost w s f g k e w') :
  FnPost (2 ^ s.vars) (fun env=>if Dd.den s.ns env f then Dd.den s.ns env g else Dd.den s.ns env k) w s e w':=by
 obtain⟨r,er,s',he,hS,hM,hF,hr,hc,hor⟩:=h
 refine⟨r,er,s',he,hS,hM,hF,hr,?_,?_⟩
 ·have:2 ^ (s.vars - min (Dd.T s.ns f) (min (Dd.T s.ns g) (Dd.T s.ns k)))≤2 ^ s.vars:=Nat.pow_le_pow_right (by omega) (by omega)
  omega
 ·rcases hor with ⟨h1,_,h2⟩ | h1
  ·exact Or.inl ⟨h1,h2⟩
  ·exact Or.inr h1
theorem ite_fn (w:World) (s:St) (h:StoreAt w s) (f g k:Nat) (hf:f<s.ns.length) (hg:g<s.ns.length) (hk:k<s.ns.length) :
  Calls Tryz.prog 57 #[.pointer (some ⟨s.sb,0,none⟩),.int .i64 f,.int .i64 g,.int .i64 k] w
   (FnPost (2 ^ s.vars) (fun env=>if Dd.den s.ns env f then Dd.den s.ns env g else Dd.den s.ns env k) w s) :=
 (ite_any _ f g k w s h hf hg hk (Nat.le_refl _)).mono fun _ _ q=>q.fn
theorem bl_new {w:World} {s:St} (h:StoreAt w s) {k:Nat} (hk:w.heap.size≤k):¬ s.bl k:=fun hb=>by have:=h.lt hb;omega
set_option maxHeartbeats 400000 in
theorem var_any (w:World) (s:St) (h:StoreAt w s) (i:Nat) (hi:i<s.vars) :
  Calls Tryz.prog 53 #[.pointer (some ⟨s.sb,0,none⟩),.int .i64 i] w (FnPost 1 (fun env=>env i) w s):=by
 have c0:=h.c0
 have two:=h.wf.two
 go_enter Tryz.func53,Tryz.ntmps53
 go_wp2_with fail
 refine (node_any w s h i 0 1 (by omega) (by omega) hi (by rw[Dd.T_const h.wf (by omega)];exact hi) (by rw[Dd.T_const h.wf (by omega)];exact hi)).mono ?_
 rintro e w' ⟨r,er,s',rfl,hS,hM,hF,hc,hr,hor⟩
 have HOR:Hid ((er=0∧∀ env,Dd.den s'.ns env r=env i)∨(er=18∧r=0∧s'.ns.length=s.budget)):=by
  rcases hor with ⟨h1,_,h2⟩ | ⟨h1,h2,h3⟩
  ·exact Or.inl ⟨h1,fun env=>by rw[h2 env,Dd.den_one,Dd.den_zero];simp⟩
  ·exact Or.inr ⟨h1,h2,by have:=hS.room;have h4:=hM.budget;have h5:=hM.len;omega⟩
 clear hor
 go_wp2_with fail
 go_ret2
 exact⟨r,er,s',rfl,hS,hM,hF,hr,hc,HOR.out⟩
set_option maxHeartbeats 400000 in
theorem var_bad (w:World) (s:St) (h:StoreAt w s) (i:Int) (hi:i<0∨(s.vars:Int)≤i) :
  Calls Tryz.prog 53 #[.pointer (some ⟨s.sb,0,none⟩),.int .i64 i] w fun e w'=>e=.returned (.tuple #[.int .i64 0,.int .i64 1])∧w'=w:=by
 have c0:=h.c0
 by_cases hi0:i<0
 ·go_enter Tryz.func53,Tryz.ntmps53
  go_wp2_with fail
  go_ret2
  exact⟨rfl,rfl⟩
 ·have hi1:(s.vars:Int)≤i:=by omega
  have hi2:0≤i:=by omega
  clear hi hi0
  go_enter Tryz.func53,Tryz.ntmps53
  go_wp2_with fail
  go_ret2
  exact⟨rfl,rfl⟩
theorem SlInts.lit {w:World} {b c:Nat} {l:List Int} {t:TypeId} {fr:Nat×Nat} (hb:w.heap[b]?=some (.cells (l.map (Value.int .i64)).toArray t fr)) (hl:l.length≤1000):SlInts w (.slice (some ⟨b,0,none⟩) l.length c) l:=by
 refine Or.inr ⟨b,0,c,rfl,hl,fun i hi=>?_⟩
 rw[cell_of_row w b (0+i) _ t fr hb]
 simp[List.getD,hi]
theorem SlInts.new3 (w:World) (a b c:Int):SlInts (w.alloc (.cells #[.int .i64 a,.int .i64 b,.int .i64 c] 3)) (.slice (some ⟨w.heap.size,0,none⟩) 3 3) [a,b,c] :=
 SlInts.lit (l:=[a,b,c]) (heap_alloc_new w _) (by simp)
theorem SlInts.new1 (w:World) (a:Int):SlInts (w.alloc (.cells #[.int .i64 a] 3)) (.slice (some ⟨w.heap.size,0,none⟩) 1 1) [a] :=
 SlInts.lit (l:=[a]) (heap_alloc_new w _) (by simp)
theorem okIn_nat {n:Nat} {l:List Nat} (h:∀ f∈l,f<n):okIn n (l.map Int.ofNat)=true:=by
 unfold okIn;rw[List.all_eq_true]
 intro x hx
 obtain⟨f,hf,rfl⟩:=List.mem_map.1 hx
 have:=h f hf
 simp;omega
theorem FnPost.from {cnt:Nat} {sem:(Nat→Bool)→Bool} {w w1 w':World} {s:St} {e:Ending} (hb:Below w.heap.size w w1) (h:FnPost cnt sem w1 s e w'):FnPost cnt sem w s e w':=by
 obtain⟨r,er,s',he,hS,hM,hF,rest⟩:=h
 exact⟨r,er,s',he,hS,(More.refl w s).trans hM hb.size,(Fr.of_below hb s.bl).trans hF (fun _ _ q=>q),rest⟩
set_option maxHeartbeats 400000 in
theorem Ite_any (w:World) (s:St) (h:StoreAt w s) (f g k:Nat) (hf:f<s.ns.length) (hg:g<s.ns.length) (hk:k<s.ns.length) :
  Calls Tryz.prog 55 #[.pointer (some ⟨s.sb,0,none⟩),.int .i64 f,.int .i64 g,.int .i64 k] w
   (FnPost (2 ^ s.vars) (fun env=>if Dd.den s.ns env f then Dd.den s.ns env g else Dd.den s.ns env k) w s):=by
 have hok:okIn s.ns.length [(f:Int),g,k]=true:=okIn_nat (l:=[f,g,k]) (by simp;omega)
 go_enter Tryz.func55,Tryz.ntmps55
 go_wp2_with fail
 have hB:Below w.heap.size w (w.alloc (.cells #[.int .i64 f,.int .i64 g,.int .i64 k] 3)):=(Below.refl _ _).alloc (Nat.le_refl _) _
 refine (are_any _ s (h.below hB) _ [(f:Int),g,k] (SlInts.new3 w f g k)).mono ?_
 rintro e w1 ⟨rfl,hw1⟩
 have HW:Hid (w1=w.alloc (.cells #[.int .i64 f,.int .i64 g,.int .i64 k] 3)):=hw1
 have hS1:StoreAt w1 s:=by rw[hw1];exact h.below hB
 have hB1:Below w.heap.size w w1:=by rw[hw1];exact hB
 clear hw1 hB
 go_wp2_with fail
 refine (ite_fn w1 s hS1 f g k hf hg hk).mono ?_
 rintro e w2 hq
 have hq':=FnPost.from hB1 hq
 obtain⟨r,er,s',rfl,rest⟩:=hq'
 clear hq
 have HR:=@Hid.out _ (show Hid _ from rest)
 clear rest HW
 go_wp2_with fail
 go_ret2
 exact⟨r,er,s',rfl,HR⟩
theorem SlInts.alloc {w:World} {v:Value} {l:List Int} (h:SlInts w v l) (o:Obj):SlInts (w.alloc o) v l:=by
 rcases h with h | ⟨b,of,c,rfl,hl,hc⟩
 ·exact Or.inl h
 ·refine Or.inr ⟨b,of,c,rfl,hl,fun i hi=>?_⟩
  rw[World.cell?_of_block (w:=w) (Below.heap_alloc _ _ _ (World.block_lt_of_cell? _ _ (hc i hi)))];exact hc i hi
set_option maxHeartbeats 400000 in
theorem Not_any (w:World) (s:St) (h:StoreAt w s) (f:Nat) (hf:f<s.ns.length) :
  Calls Tryz.prog 28 #[.pointer (some ⟨s.sb,0,none⟩),.int .i64 f] w (FnPost (2 ^ s.vars) (fun env=>!Dd.den s.ns env f) w s):=by
 have two:=h.wf.two
 go_enter Tryz.func28,Tryz.ntmps28
 go_wp2_with fail
 refine (Ite_any w s h f 0 1 hf (by omega) (by omega)).mono ?_
 rintro e w2 ⟨r,er,s',rfl,hS,hM,hF,hr,hc,hor⟩
 have HR:Hid (s'.ns.length≤s.ns.length+2 ^ s.vars∧((er=0∧∀ env,Dd.den s'.ns env r = !Dd.den s.ns env f)∨(er=18∧r=0∧s'.ns.length=s.budget))):=by
  refine⟨hc,hor.imp (fun ⟨q1,q2⟩=>⟨q1,fun env=>?_⟩) id⟩
  rw[q2 env]
  show (if Dd.den s.ns env f then Dd.den s.ns env 0 else Dd.den s.ns env 1)=_
  rw[Dd.den_zero,Dd.den_one];cases Dd.den s.ns env f <;> rfl
 clear hor hc
 go_wp2_with fail
 go_ret2
 exact⟨r,er,s',rfl,hS,hM,hF,hr,HR.out⟩
def SlFns (w:World) (s:St) (v:Value) (l:List Nat):Prop :=
 (v=.slice none 0 0∧l=[])∨∃ b o c,v=.slice (some ⟨b,o,none⟩) l.length c∧l.length≤1000∧b<w.heap.size∧¬ s.bl b∧∀ i,i<l.length→w.cell? ⟨b,o+i,none⟩=some (.int .i64 (l.getD i 0))
theorem SlFns.ints {w:World} {s:St} {v:Value} {l:List Nat} (h:SlFns w s v l):SlInts w v (l.map Int.ofNat):=by
 rcases h with ⟨h1,rfl⟩ | ⟨b,o,c,rfl,hl,_,_,hc⟩
 ·exact Or.inl ⟨h1,rfl⟩
 ·refine Or.inr ⟨b,o,c,by simp,by simpa using hl,fun i hi=>?_⟩
  simp at hi
  rw[hc i hi];simp[List.getD,hi]
theorem all_take (p:Nat→Bool) (l:List Nat) (k:Nat) (hk:k<l.length):(l.take (k+1)).all p=((l.take k).all p&&p (l.getD k 0)):=by
 rw[List.take_succ_eq_append_getElem hk,List.all_append];simp[List.getD,hk]
set_option maxHeartbeats 1000000 in
theorem And_any (w:World) (s:St) (h:StoreAt w s) (v:Value) (l:List Nat) (hl:SlFns w s v l) (hok:∀ f∈l,f<s.ns.length) :
  Calls Tryz.prog 29 #[.pointer (some ⟨s.sb,0,none⟩),v] w (FnPost (l.length * 2 ^ s.vars) (fun env=>l.all (Dd.den s.ns env)) w s):=by
 have two:=h.wf.two
 have HOK:Hid (okIn s.ns.length (l.map Int.ofNat)=true):=okIn_nat hok
 have hI:=hl.ints
 rcases hl with ⟨rfl,rfl⟩ | ⟨b,o,c,rfl,hm,hlt,hnb,hc⟩
 ·go_enter Tryz.func29,Tryz.ntmps29
  go_wp2_with fail
  refine (are_any w s h _ _ hI).mono ?_
  rintro e w1 ⟨rfl,rfl⟩
  rw[HOK.out]
  go_wp2_with fail
  go_loop [6,7,9,16] (fun a e _ i=>a=.int .i64 1∧e=.int .i64 0∧i=.int .i64 0) (fun _ _ _ _=>0)
  case atStart=>exact⟨rfl,rfl,rfl⟩
  case round =>
   obtain⟨rfl,rfl,rfl⟩:=hrel
   go_wp2_with fail
   go_ret2
   exact⟨1,0,s,rfl,h,More.refl _ _,Fr.refl _ _,by omega,by omega,Or.inl ⟨rfl,fun env=>by simp[Dd.den_one]⟩⟩
 ·go_enter Tryz.func29,Tryz.ntmps29
  go_wp2_with fail
  refine (are_any w s h _ _ hI).mono ?_
  rintro e w1 ⟨rfl,rfl⟩
  rw[HOK.out]
  go_wp2_with fail
  go_loopw [6,7,9,16] (fun a e _ i wr=>∃ (k r:Nat) (s':St),k≤l.length∧i=.int .i64 k∧a=.int .i64 r∧e=.int .i64 0∧StoreAt wr s'∧More w1 s s'∧Fr s.bl w1 wr∧r<s'.ns.length∧s'.ns.length≤s.ns.length+k * 2 ^ s.vars ∧
    ∀ env,Dd.den s'.ns env r=(l.take k).all (Dd.den s.ns env)) (fun _ _ _ i _=>l.length - (intOf i).toNat)
  case atStart=>exact⟨0,1,s,Nat.zero_le _,rfl,rfl,rfl,h,More.refl _ _,Fr.refl _ _,by omega,by omega,fun env=>by simp[Dd.den_one]⟩
  case round =>
   obtain⟨k,r,s',hk,rfl,rfl,rfl,hS,hM,hF,hr,hcn,hsem⟩:=hrel
   by_cases hlt':k<l.length
   ·have hck:=(hF.cell (p:=⟨b,o+k,none⟩) hlt hnb).trans (hc k hlt')
    have hx:=hok (l.getD k 0) (by simp[List.getD,hlt'])
    have HA:=fun env=>all_take (Dd.den s.ns env) l k hlt'
    obtain⟨x,hxe⟩ : ∃ x,x=l.getD k 0:=⟨_,rfl⟩
    rw[← hxe] at hck hx HA
    have HX:Hid (x=l.getD k 0):=hxe
    have hMl:=hM.len
    clear hc hxe
    go_wp2_with fail
    have HH:=ite_fn wr s' hS r x 0 hr (by omega) (by omega)
    rw[hM.sb] at HH
    refine HH.mono ?_
    clear HH
    rintro e w2 ⟨r2,er,s2,rfl,hS2,hM2,hF2,hr2,hc2,hor⟩
    rw[hM.vars] at hc2
    have HM:=hM.trans hM2 hF.size
    have HF:=hF.trans hF2 (fun i hi q=>hM.bl i hi q)
    have HC:Hid (s2.ns.length≤s.ns.length+(k+1) * 2 ^ s.vars):=by show _≤_;rw[Nat.succ_mul];omega
    have HC2:Hid (s2.ns.length≤s.ns.length+l.length * 2 ^ s.vars):=by
     have h1:=HC.out
     have h2:(k+1) * 2 ^ s.vars≤l.length * 2 ^ s.vars:=Nat.mul_le_mul_right _ (by omega)
     show _≤_;omega
    have HB:Hid (s'.budget=s.budget):=hM.budget
    rcases hor with ⟨rfl,hd⟩ | ⟨rfl,rfl,hfull⟩
    ·have HD:Hid (∀ env,Dd.den s2.ns env r2=(l.take (k+1)).all (Dd.den s.ns env)):=by
      intro env
      rw[hd env]
      show (if Dd.den s'.ns env r then Dd.den s'.ns env x else Dd.den s'.ns env 0)=_
      rw[hsem env,HA env,Dd.den_zero,hM.den h hS env hx]
      cases (l.take k).all (Dd.den s.ns env) <;> simp
     clear hd hsem HA hc2 hcn
     go_wp2_with fail
     go_roundw
     case rel=>exact⟨k+1,r2,s2,by omega,by go_num,rfl,rfl,hS2,HM,HF,hr2,HC.out,HD.out⟩
     case measure=>simp[intOf];omega
    ·have HFU:Hid (s2.ns.length=s'.budget):=hfull
     clear hfull hsem HA hc2 hcn
     go_wp2_with fail
     go_ret2
     exact⟨0,18,s2,rfl,hS2,HM,HF,by omega,HC2.out,Or.inr ⟨rfl,rfl,HFU.out.trans HB.out⟩⟩
   ·have hke:k=l.length:=by omega
    subst hke
    rw[List.take_length] at hsem
    have HS:Hid (∀ env,Dd.den s'.ns env r=l.all (Dd.den s.ns env)):=hsem
    clear hsem
    go_wp2_with fail
    go_ret2
    exact⟨r,0,s',rfl,hS,hM,hF,hr,hcn,Or.inl ⟨rfl,HS.out⟩⟩
end Go.Proofs.YtmacepicoandkaaGreatDoor
namespace Go.Proofs.YtmacepicoandkaaGreatDoor
open Go.RowKit
set_option maxRecDepth 20000
set_option maxHeartbeats 400000 in
theorem ConstS_any (w:World) (a:Addr) (b:Bool) :
  Calls Tryz.prog 26 #[.pointer (some a),.bool b] w fun e w'=>e=.returned (.int .i64 (if b then 1 else 0))∧w'=w:=by
 cases b
 ·go_enter Tryz.func26,Tryz.ntmps26
  go_wp2_with fail
  go_ret
  exact⟨rfl,rfl⟩
 ·go_enter Tryz.func26,Tryz.ntmps26
  go_wp2_with fail
  go_ret
  exact⟨rfl,rfl⟩
theorem heap_alloc_at (w:World) (o:Obj) (k:Nat):(w.alloc o).heap[k]?=if k=w.heap.size then some o else w.heap[k]?:=by
 show (w.heap.push o)[k]?=_
 rw[Array.getElem?_push]
theorem store_new (w:World) (v b:Nat) (hv:v≤30) (hb:2≤b) (hb2:b≤10000) :
  StoreAt ((((w.alloc (.cells #[.int .i64 v,.int .i64 0,.int .i64 0,.int .i64 v,.int .i64 1,.int .i64 1] 100)).alloc (.map #[] 0)).alloc (.map #[] 0)).alloc
   (.cells #[.int .i64 v,.int .i64 b,.slice (some ⟨w.heap.size,0,none⟩) 2 2,.map (some (w.heap.size+1)),.map (some (w.heap.size+1+1))] 105))
   ⟨w.heap.size+1+1+1,w.heap.size,w.heap.size+1,w.heap.size+1+1,v,b,2,[(v,0,0),(v,1,1)],[]⟩:=by
 have z:∀ (x:World) (o:Obj),(x.alloc o).heap.size=x.heap.size+1:=fun x o=>by show (x.heap.push o).size=_;simp
 refine⟨?_,⟨by simp[flat],Or.inr ⟨w.heap.size,2,#[.int .i64 v,.int .i64 0,.int .i64 0,.int .i64 v,.int .i64 1,.int .i64 1],rfl,Nat.zero_le _,?_,Nat.le_refl _,by unfold maxLen;omega,?_,?_⟩⟩,⟨#[],0,?_,rfl⟩,⟨#[],0,?_,rfl⟩,?_,Dd.WF_new v,hv,by simpa using hb,hb2,by simp⟩
 ·simp only[heap_alloc_at,z];simp
 ·simp only[heap_alloc_at,z];rw[if_neg (by omega),if_neg (by omega),if_neg (by omega),if_pos True.intro]
 ·rfl
 ·rfl
 ·simp only[heap_alloc_at,z];simp
 ·simp only[heap_alloc_at,z];simp
 ·simp;omega
set_option maxHeartbeats 400000 in
theorem New_ok (w:World) (v b:Nat) (hv:v≤30) (hb:2≤b) (hb2:b≤10000) :
  Calls Tryz.prog 25 #[.int .i64 v,.int .i64 b] w fun e w'=>∃ s:St,e=.returned (.tuple #[.pointer (some ⟨s.sb,0,none⟩),.int .i64 0])∧StoreAt w' s∧s.vars=v∧s.budget=b∧s.ns=[(v,0,0),(v,1,1)]∧Below w.heap.size w w'∧(∀ k,s.bl k→w.heap.size≤k):=by
 have hmm:=@run_makeMap Tryz.prog
 go_enter Tryz.func25,Tryz.ntmps25
 go_wp2_with fail
 go_ret2
 exact⟨⟨w.heap.size+1+1+1,w.heap.size,w.heap.size+1,w.heap.size+1+1,v,b,2,[(v,0,0),(v,1,1)],[]⟩,rfl,store_new w v b hv hb hb2,rfl,rfl,rfl,
  ((((Below.refl _ _).alloc (Nat.le_refl _) _).alloc (by simp) _).alloc (by simp;omega) _).alloc (by simp;omega) _,fun k hk=>by rcases hk with rfl | rfl | rfl | rfl <;> simp <;> omega⟩
def SlBools (w:World) (v:Value) (l:List Bool):Prop :=
 (v=.slice none 0 0∧l=[])∨∃ b o c,v=.slice (some ⟨b,o,none⟩) l.length c∧b<w.heap.size∧∀ i,i<l.length→w.cell? ⟨b,o+i,none⟩=some (.bool (l.getD i false))
theorem SlBools.below {w w':World} {v:Value} {l:List Bool} (h:SlBools w v l) (hb:Below w.heap.size w w'):SlBools w' v l:=by
 rcases h with h | ⟨b,o,c,rfl,hl,hc⟩
 ·exact Or.inl h
 ·exact Or.inr ⟨b,o,c,rfl,Nat.lt_of_lt_of_le hl hb.size,fun i hi=>(hb.cell hl).trans (hc i hi)⟩
def envOf (l:List Bool):Nat→Bool:=fun i=>l.getD i false
end Go.Proofs.YtmacepicoandkaaGreatDoor
