/- A watch in memory; New: the walk. First, of a watch: the walk. -/
import Derived.Test.YtoalnjpeblgkbabGreatDoorJ33
import Derived.Test.YtoalnjpeblgkbabGreatDoorJ34
set_option linter.unusedVariables false
set_option linter.unusedSimpArgs false
namespace Go.Proofs.YtoalnjpeblgkbabGreatDoor
open Go.RowKit
structure WatchAt (w:World) (M:List Nat) (b fb fo:Nat) (l:List Chk) (fs:List Int) (n:Int):Prop where
 ex:∃ vl vf,Blk w b #[vl,vf,.int .i64 n] 58∧SlN chkC 4 M w vl l∧RegsL w fb fo vf fs
 ne:fs≠[]→fb≠b
 hb:b∈M
 hf:fb∈M
section
variable {w w' : World} {M : List Nat} {b fb fo : Nat} {l : List Chk} {fs : List Int} {n : Int}
theorem WatchAt.fr {S:List Nat} (h:WatchAt w M b fb fo l fs n) (hf:FrS S w w') (hS:∀ i∈S,i∈M) (hb:b ∉ S) (hfb:fs≠[]→fb ∉ S):WatchAt w' M b fb fo l fs n:=by
 obtain⟨vl,vf,h1,h2,h3⟩:=h.ex
 exact⟨⟨vl,vf,hf.blk h1 hb,h2.fr hf hS,h3.fr hf hfb⟩,h.ne,h.hb,h.hf⟩
theorem WatchAt.below (h:WatchAt w M b fb fo l fs n) (hb:Below w.heap.size w w'):WatchAt w' M b fb fo l fs n:=by
 obtain⟨vl,vf,h1,h2,h3⟩:=h.ex
 exact⟨⟨vl,vf,h1.below hb,h2.below hb,h3.below hb⟩,h.ne,h.hb,h.hf⟩
theorem WatchAt.drawn (h:WatchAt w M b fb fo l fs n) (k:Nat):WatchAt (w.drewN k) M b fb fo l fs n:=⟨h.ex,h.ne,h.hb,h.hf⟩
theorem WatchAt.more {q:Nat} (h:WatchAt w M b fb fo l fs n) (hq:w.heap.size≤q):WatchAt w (q :: M) b fb fo l fs n:=by
 obtain⟨vl,vf,h1,h2,h3⟩:=h.ex
 exact⟨⟨vl,vf,h1,h2.more (fun i hi=>by rcases List.mem_cons.1 hi with rfl | hi;exact Or.inr hq;exact Or.inl hi),h3⟩,h.ne,List.mem_cons_of_mem _ h.hb,List.mem_cons_of_mem _ h.hf⟩
end
set_option maxRecDepth 100000 in
set_option maxHeartbeats 1000000 in
theorem New_any (l:List Chk) (hl:l.length≤60) (v:Value) (w:World) (hv:Sl chkC 4 w v l) (h4:4≤w.heap.size) :
  Calls Tryz.prog 6 #[v] w fun e w'=>∃ b fb fo,e=.returned (.pointer (some ⟨b,0,none⟩))∧WatchAt w' [b,fb] b fb fo l (List.replicate l.length (-1)) 0∧w.heap.size≤b∧w.heap.size≤fb∧Below w.heap.size w w':=by
 have hcl:=cloneC_any l v w hv (by omega)
 obtain⟨a,c,rfl,hc,-⟩:=hv.form
 have hrep:=fun W b o (hx:W.cell? ⟨b,o,none⟩=some (.int .i64 (-1))) (h:4≤W.heap.size)=>Ev.repeat_calls (W:=W) hx h (n:=l.length) hl
 obtain⟨n,hn⟩ : ∃ n,n=l.length:=⟨_,rfl⟩
 rw[← hn] at hcl hrep hc ⊢
 have HN:=Lib.hid hn
 have HR:=Lib.hid hrep
 clear hn hv hrep
 go_enter Tryz.func6,Tryz.ntmps6
 go_wp2_with fail
 refine hcl.mono ?_
 rintro e W1 ⟨u,rfl,hown,hb1⟩
 have hk:=Blk.new W1 #[.int .i64 (-1)] 3
 have hs1:Sl chkC 4 W1 u l:=Sl.own chkC_len hown HN.out.symm
 obtain⟨ua,uc,hu,-,-⟩:=hs1.form
 rw[← HN.out] at hu
 subst hu
 have HS1:=Lib.hid hs1
 have hz1:(W1.alloc (.cells #[.int .i64 (-1)] 3)).heap.size=W1.heap.size+1:=by simp
 have hb01:Below w.heap.size w (W1.alloc (.cells #[.int .i64 (-1)] 3)):=hb1.alloc hb1.size _
 have hr:=HR.out (W1.alloc (.cells #[.int .i64 (-1)] 3)) W1.heap.size 0 (hk.c rfl) (by have:=hb1.size;omega)
 have HB1:=Lib.hid hb1
 have HB01:=Lib.hid hb01
 have HZ1:=Lib.hid hz1
 clear hown hs1 hk hb1 hb01 hz1 h4 hcl
 go_wp2_with fail
 refine hr.mono ?_
 rintro e W2 ⟨a2,B,O,rfl,hA,hB2,q1,q2,q3,q4,q5,q6⟩
 have HA:=Lib.hid hA
 have HB2:=Lib.hid hB2
 have HB12:Hid (Below (W1.alloc (.cells #[.int .i64 (-1)] 3)).heap.size (W1.alloc (.cells #[.int .i64 (-1)] 3)) W2):=⟨q1,q2,q3,q4,q5⟩
 have HC2:=Lib.hid q6
 clear hA hB2 q1 q2 q3 q4 q5 q6 hr
 go_wp2_with fail
 have hb12:=HB12.out
 have hz1:=HZ1.out
 have hz2:=hb12.size
 have hb02:Below w.heap.size w W2:=HB01.out.trans (hb12.mono HB01.out.size)
 have hw1:=HB1.out.size
 have hR:RegsL W2 B O (.slice (some a2) n n) (List.replicate n (-1)):=by
  by_cases h0:n=0
  ·subst h0;exact Or.inl ⟨rfl,_,_,rfl⟩
  ·have e:=HA.out h0
   subst e
   refine Or.inr ⟨n,by rw[List.length_replicate],by rw[List.length_replicate];exact Nat.le_refl _,?_,fun i x hi=>?_⟩
   ·exact World.block_lt_of_cell? W2 _ (HC2.out 0 (by omega)).1
   ·rw[List.getElem?_replicate] at hi
    split at hi
    ·rename_i hin;cases hi;exact HC2.out i hin
    ·cases hi
 have hbox:=(Below.refl W2.heap.size W2).alloc (Nat.le_refl _) (.cells #[.slice ua n uc,.slice (some a2) n n,.int .i64 0] 58)
 have hB2:=HB2.out
 have hlt:n≠0→B<W2.heap.size:=fun h0=>by
  have:=hR.lt (fun e=>h0 (by have:=congrArg List.length e;simpa using this))
  exact this
 go_ret
 refine⟨W2.heap.size,B,O,rfl,⟨⟨.slice ua n uc,.slice (some a2) n n,Blk.new W2 _ _,?_,hR.below hbox⟩,fun q=>?_,by simp,by simp⟩,by omega,by omega,hb02.alloc hb02.size _⟩
 ·refine SlN.below (w:=W2) ?_ hbox
  have h1:SlN chkC 4 [W2.heap.size,B] W1 (.slice ua n uc) l:=HS1.out.apart (fun i hi=>by
   simp only[List.mem_cons,List.not_mem_nil,or_false] at hi
   rcases hi with rfl | rfl <;> omega)
  exact h1.below ⟨hb12.os,hb12.tape,hb12.output,by omega,fun k hk=>(hb12.block k (by omega)).trans (Below.heap_alloc _ _ _ hk)⟩
 ·have h0:n≠0:=fun e=>by subst e;exact q rfl
  have:=hlt h0
  omega
end Go.Proofs.YtoalnjpeblgkbabGreatDoor
namespace Go.Proofs.YtoalnjpeblgkbabGreatDoor
open Go.RowKit
theorem pFirst_any {w:World} {M:List Nat} {b fb fo:Nat} {l:List Chk} {fs:List Int} {n:Int} (h:WatchAt w M b fb fo l fs n) (hl:fs.length≤1000) :
  Calls Tryz.prog 12 #[.pointer (some ⟨b,0,none⟩)] w fun e w'=>∃ u,e=.returned u∧(∀ M:List Nat,(∀ i∈M,i<w.heap.size)→SlN intC 1 M w' u fs)∧Below w.heap.size w w':=by
 obtain⟨vl,vf,h1,h2,h3⟩:=h.ex
 have hcl:=cloneI_any fs vf w (h3.sln (M:=[]) (fun _ q=>by cases q)).sl (by omega)
 have c1:w.cell? ⟨b,1,none⟩=some vf:=h1.c rfl
 obtain⟨a,c,rfl,-,-,-⟩:=h3.form
 obtain⟨m,hm⟩ : ∃ m,m=fs.length:=⟨_,rfl⟩
 rw[← hm] at hcl c1
 have HM:=Lib.hid hm
 clear hm h1 h2 h3
 go_enter Tryz.func12,Tryz.ntmps12
 go_wp2_with fail
 refine hcl.mono ?_
 rintro e W1 ⟨u,rfl,hown,hb1⟩
 have HO:=Lib.hid hown
 clear hown
 go_wp2_with fail
 go_ret
 exact⟨u,rfl,fun M hM=>ownsRow_apart intC_len HO.out HM.out.symm hM,hb1⟩
end Go.Proofs.YtoalnjpeblgkbabGreatDoor
