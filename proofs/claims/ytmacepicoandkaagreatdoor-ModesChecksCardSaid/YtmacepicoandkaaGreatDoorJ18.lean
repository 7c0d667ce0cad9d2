/- The reference's reader of expressions: where there was a fault: the walk. -/
import Derived.Test.YtmacepicoandkaaGreatDoorJ17
set_option linter.unusedVariables false
set_option linter.unusedSimpArgs false
namespace Go.Proofs.YtmacepicoandkaaGreatDoor
open Go.RowKit Go.Shelf Tx Px
section
variable {L : List Tok} {a : Option Addr} {cc rb : Nat} {w0 : World}
set_option maxRecDepth 100000 in
set_option maxHeartbeats 1000000 in
theorem r4operand_fault (_EV:Hid (EnvOk w0 rb a cc L)) (i:Nat) (_hi:i≤200000) (o c p:Int) (hc:c≠0) (w:World) (_hB:Al rb w0 w) (hR:Rd rb (.slice a L.length cc) w i o c p) :
  Calls Tryz.prog 140 #[.pointer (some ⟨rb,0,none⟩)] w fun e w'=>e=.returned (.slice none 0 0)∧Below w.heap.size w w':=by
 obtain⟨c0,c1,c2,c3,c4⟩:=hR.cells
 have e0:(c==0)=false:=by simp[hc]
 have e1:(c != 0)=true:=by simp[hc]
 clear hR hc _hB _EV
 go_enter Tryz.func140,Tryz.ntmps140
 go_wp2_with fail
 go_ret
 exact⟨rfl,Below.refl _ _⟩
set_option maxRecDepth 100000 in
set_option maxHeartbeats 1000000 in
theorem r4prod_fault (EV:Hid (EnvOk w0 rb a cc L)) (i:Nat) (hi:i≤200000) (o c p:Int) (hc:c≠0) (w:World) (hB:Al rb w0 w) (hR:Rd rb (.slice a L.length cc) w i o c p) :
  Calls Tryz.prog 139 #[.pointer (some ⟨rb,0,none⟩)] w fun e w'=>e=.returned (.slice none 0 0)∧Below w.heap.size w w':=by
 have hn:=r4operand_fault EV i hi o c p hc w hB hR
 have HB:=Lib.hid hB
 have HR:=Lib.hid hR
 have HC:=Lib.hid hc
 clear hB hR hc
 go_enter Tryz.func139,Tryz.ntmps139
 go_wp2_with fail
 refine hn.mono ?_
 rintro r w1 ⟨rfl,hb⟩
 have HBL:=Lib.hid hb
 clear hn hb
 obtain⟨nb,hnb⟩ : ∃ nb,nb=w.heap.size:=⟨_,rfl⟩
 have HNB:=Lib.hid hnb
 rw[← hnb] at HBL
 clear hnb
 go_wp2_with fail
 go_loopw [3] (fun av wr=>av=.slice none 0 0∧Below nb w wr) (fun _ _=>0)
 case atStart=>exact⟨rfl,HBL.out⟩
 case round =>
 obtain⟨rfl,hbl⟩:=hrel
 have HBL0:Hid (Below w.heap.size w wr):=by rw[HNB.out] at hbl;exact hbl
 clear hbl
 have hc:=r4is_no EV i hi o c p ⟨#[42]⟩ (Or.inr HC.out) wr (HB.out.then HBL0.out) (HR.out.below HBL0.out)
 go_wp2_with fail
 refine hc.mono ?_
 rintro r v1 ⟨rfl,hb⟩
 have HBL1:=Lib.hid (below_next HBL0.out hb)
 clear hc hb HBL0
 have hc:=r4is_no EV i hi o c p ⟨#[100,105,118]⟩ (Or.inr HC.out) v1 (HB.out.then HBL1.out) (HR.out.below HBL1.out)
 go_wp2_with fail
 refine hc.mono ?_
 rintro r v2 ⟨rfl,hb⟩
 have HBL2:=Lib.hid (below_next HBL1.out hb)
 clear hc hb HBL1
 have hc:=r4is_no EV i hi o c p ⟨#[109,111,100]⟩ (Or.inr HC.out) v2 (HB.out.then HBL2.out) (HR.out.below HBL2.out)
 go_wp2_with fail
 refine hc.mono ?_
 rintro r v3 ⟨rfl,hb⟩
 have HBL3:=Lib.hid (below_next HBL2.out hb)
 clear hc hb HBL2
 go_wp2_with fail
 go_ret
 exact⟨rfl,HBL3.out⟩
set_option maxRecDepth 100000 in
set_option maxHeartbeats 1000000 in
theorem r4sum_fault (EV:Hid (EnvOk w0 rb a cc L)) (i:Nat) (hi:i≤200000) (o c p:Int) (hc:c≠0) (w:World) (hB:Al rb w0 w) (hR:Rd rb (.slice a L.length cc) w i o c p) :
  Calls Tryz.prog 138 #[.pointer (some ⟨rb,0,none⟩)] w fun e w'=>e=.returned (.slice none 0 0)∧Below w.heap.size w w':=by
 have hn:=r4prod_fault EV i hi o c p hc w hB hR
 have HB:=Lib.hid hB
 have HR:=Lib.hid hR
 have HC:=Lib.hid hc
 clear hB hR hc
 go_enter Tryz.func138,Tryz.ntmps138
 go_wp2_with fail
 refine hn.mono ?_
 rintro r w1 ⟨rfl,hb⟩
 have HBL:=Lib.hid hb
 clear hn hb
 obtain⟨nb,hnb⟩ : ∃ nb,nb=w.heap.size:=⟨_,rfl⟩
 have HNB:=Lib.hid hnb
 rw[← hnb] at HBL
 clear hnb
 go_wp2_with fail
 go_loopw [3] (fun av wr=>av=.slice none 0 0∧Below nb w wr) (fun _ _=>0)
 case atStart=>exact⟨rfl,HBL.out⟩
 case round =>
 obtain⟨rfl,hbl⟩:=hrel
 have HBL0:Hid (Below w.heap.size w wr):=by rw[HNB.out] at hbl;exact hbl
 clear hbl
 have hc:=r4is_no EV i hi o c p ⟨#[43]⟩ (Or.inr HC.out) wr (HB.out.then HBL0.out) (HR.out.below HBL0.out)
 go_wp2_with fail
 refine hc.mono ?_
 rintro r v1 ⟨rfl,hb⟩
 have HBL1:=Lib.hid (below_next HBL0.out hb)
 clear hc hb HBL0
 have hc:=r4is_no EV i hi o c p ⟨#[45]⟩ (Or.inr HC.out) v1 (HB.out.then HBL1.out) (HR.out.below HBL1.out)
 go_wp2_with fail
 refine hc.mono ?_
 rintro r v2 ⟨rfl,hb⟩
 have HBL2:=Lib.hid (below_next HBL1.out hb)
 clear hc hb HBL1
 go_wp2_with fail
 go_ret
 exact⟨rfl,HBL2.out⟩
set_option maxRecDepth 100000 in
set_option maxHeartbeats 1000000 in
theorem r4cmp_fault (EV:Hid (EnvOk w0 rb a cc L)) (i:Nat) (hi:i≤200000) (o c p:Int) (hc:c≠0) (w:World) (hB:Al rb w0 w) (hR:Rd rb (.slice a L.length cc) w i o c p) :
  Calls Tryz.prog 137 #[.pointer (some ⟨rb,0,none⟩)] w fun e w'=>e=.returned (.slice none 0 0)∧Below w.heap.size w w':=by
 have hn:=r4sum_fault EV i hi o c p hc w hB hR
 have HB:=Lib.hid hB
 have HR:=Lib.hid hR
 have HC:=Lib.hid hc
 clear hB hR hc
 go_enter Tryz.func137,Tryz.ntmps137
 go_wp2_with fail
 refine hn.mono ?_
 rintro r w1 ⟨rfl,hb⟩
 have HBL:=Lib.hid hb
 clear hn hb
 obtain⟨nb,hnb⟩ : ∃ nb,nb=w.heap.size:=⟨_,rfl⟩
 have HNB:=Lib.hid hnb
 rw[← hnb] at HBL
 have HBL0:Hid (Below w.heap.size w w1):=by rw[hnb] at HBL;exact HBL
 clear hnb
 have hc:=r4take_no EV i hi o c p ⟨#[61]⟩ (Or.inr HC.out) w1 (HB.out.then HBL0.out) (HR.out.below HBL0.out)
 go_wp2_with fail
 refine hc.mono ?_
 rintro r v1 ⟨rfl,hb⟩
 have HBL1:=Lib.hid (below_next HBL0.out hb)
 clear hc hb HBL0
 have hc:=r4take_no EV i hi o c p ⟨#[60,62]⟩ (Or.inr HC.out) v1 (HB.out.then HBL1.out) (HR.out.below HBL1.out)
 go_wp2_with fail
 refine hc.mono ?_
 rintro r v2 ⟨rfl,hb⟩
 have HBL2:=Lib.hid (below_next HBL1.out hb)
 clear hc hb HBL1
 have hc:=r4take_no EV i hi o c p ⟨#[60]⟩ (Or.inr HC.out) v2 (HB.out.then HBL2.out) (HR.out.below HBL2.out)
 go_wp2_with fail
 refine hc.mono ?_
 rintro r v3 ⟨rfl,hb⟩
 have HBL3:=Lib.hid (below_next HBL2.out hb)
 clear hc hb HBL2
 have hc:=r4take_no EV i hi o c p ⟨#[60,61]⟩ (Or.inr HC.out) v3 (HB.out.then HBL3.out) (HR.out.below HBL3.out)
 go_wp2_with fail
 refine hc.mono ?_
 rintro r v4 ⟨rfl,hb⟩
 have HBL4:=Lib.hid (below_next HBL3.out hb)
 clear hc hb HBL3
 have hc:=r4take_no EV i hi o c p ⟨#[62]⟩ (Or.inr HC.out) v4 (HB.out.then HBL4.out) (HR.out.below HBL4.out)
 go_wp2_with fail
 refine hc.mono ?_
 rintro r v5 ⟨rfl,hb⟩
 have HBL5:=Lib.hid (below_next HBL4.out hb)
 clear hc hb HBL4
 have hc:=r4take_no EV i hi o c p ⟨#[62,61]⟩ (Or.inr HC.out) v5 (HB.out.then HBL5.out) (HR.out.below HBL5.out)
 go_wp2_with fail
 refine hc.mono ?_
 rintro r v6 ⟨rfl,hb⟩
 have HBL6:=Lib.hid (below_next HBL5.out hb)
 clear hc hb HBL5
 go_wp2_with fail
 go_ret
 exact⟨rfl,HBL6.out⟩
set_option maxRecDepth 100000 in
set_option maxHeartbeats 1000000 in
theorem r4and_fault (EV:Hid (EnvOk w0 rb a cc L)) (i:Nat) (hi:i≤200000) (o c p:Int) (hc:c≠0) (w:World) (hB:Al rb w0 w) (hR:Rd rb (.slice a L.length cc) w i o c p) :
  Calls Tryz.prog 134 #[.pointer (some ⟨rb,0,none⟩)] w fun e w'=>e=.returned (.slice none 0 0)∧Below w.heap.size w w':=by
 have hn:=r4cmp_fault EV i hi o c p hc w hB hR
 have HB:=Lib.hid hB
 have HR:=Lib.hid hR
 have HC:=Lib.hid hc
 clear hB hR hc
 go_enter Tryz.func134,Tryz.ntmps134
 go_wp2_with fail
 refine hn.mono ?_
 rintro r w1 ⟨rfl,hb⟩
 have HBL:=Lib.hid hb
 clear hn hb
 obtain⟨nb,hnb⟩ : ∃ nb,nb=w.heap.size:=⟨_,rfl⟩
 have HNB:=Lib.hid hnb
 rw[← hnb] at HBL
 clear hnb
 go_wp2_with fail
 go_loopw [3] (fun av wr=>av=.slice none 0 0∧Below nb w wr) (fun _ _=>0)
 case atStart=>exact⟨rfl,HBL.out⟩
 case round =>
 obtain⟨rfl,hbl⟩:=hrel
 have HBL0:Hid (Below w.heap.size w wr):=by rw[HNB.out] at hbl;exact hbl
 clear hbl
 have hc:=r4take_no EV i hi o c p ⟨#[97,110,100]⟩ (Or.inr HC.out) wr (HB.out.then HBL0.out) (HR.out.below HBL0.out)
 go_wp2_with fail
 refine hc.mono ?_
 rintro r v1 ⟨rfl,hb⟩
 have HBL1:=Lib.hid (below_next HBL0.out hb)
 clear hc hb HBL0
 go_wp2_with fail
 go_ret
 exact⟨rfl,HBL1.out⟩
set_option maxRecDepth 100000 in
set_option maxHeartbeats 1000000 in
theorem r4or_fault (EV:Hid (EnvOk w0 rb a cc L)) (i:Nat) (hi:i≤200000) (o c p:Int) (hc:c≠0) (w:World) (hB:Al rb w0 w) (hR:Rd rb (.slice a L.length cc) w i o c p) :
  Calls Tryz.prog 126 #[.pointer (some ⟨rb,0,none⟩)] w fun e w'=>e=.returned (.slice none 0 0)∧Below w.heap.size w w':=by
 have hn:=r4and_fault EV i hi o c p hc w hB hR
 have HB:=Lib.hid hB
 have HR:=Lib.hid hR
 have HC:=Lib.hid hc
 clear hB hR hc
 go_enter Tryz.func126,Tryz.ntmps126
 go_wp2_with fail
 refine hn.mono ?_
 rintro r w1 ⟨rfl,hb⟩
 have HBL:=Lib.hid hb
 clear hn hb
 obtain⟨nb,hnb⟩ : ∃ nb,nb=w.heap.size:=⟨_,rfl⟩
 have HNB:=Lib.hid hnb
 rw[← hnb] at HBL
 clear hnb
 go_wp2_with fail
 go_loopw [3] (fun av wr=>av=.slice none 0 0∧Below nb w wr) (fun _ _=>0)
 case atStart=>exact⟨rfl,HBL.out⟩
 case round =>
 obtain⟨rfl,hbl⟩:=hrel
 have HBL0:Hid (Below w.heap.size w wr):=by rw[HNB.out] at hbl;exact hbl
 clear hbl
 have hc:=r4is_no EV i hi o c p ⟨#[111,114]⟩ (Or.inr HC.out) wr (HB.out.then HBL0.out) (HR.out.below HBL0.out)
 go_wp2_with fail
 refine hc.mono ?_
 rintro r v1 ⟨rfl,hb⟩
 have HBL1:=Lib.hid (below_next HBL0.out hb)
 clear hc hb HBL0
 have hc:=r4is_no EV i hi o c p ⟨#[120,111,114]⟩ (Or.inr HC.out) v1 (HB.out.then HBL1.out) (HR.out.below HBL1.out)
 go_wp2_with fail
 refine hc.mono ?_
 rintro r v2 ⟨rfl,hb⟩
 have HBL2:=Lib.hid (below_next HBL1.out hb)
 clear hc hb HBL1
 go_wp2_with fail
 go_ret
 exact⟨rfl,HBL2.out⟩
set_option maxRecDepth 100000 in
set_option maxHeartbeats 1000000 in
theorem r4since_fault (EV:Hid (EnvOk w0 rb a cc L)) (i:Nat) (hi:i≤200000) (o c p:Int) (hc:c≠0) (w:World) (hB:Al rb w0 w) (hR:Rd rb (.slice a L.length cc) w i o c p) :
  Calls Tryz.prog 116 #[.pointer (some ⟨rb,0,none⟩)] w fun e w'=>e=.returned (.slice none 0 0)∧Below w.heap.size w w':=by
 have hn:=r4or_fault EV i hi o c p hc w hB hR
 have HB:=Lib.hid hB
 have HR:=Lib.hid hR
 have HC:=Lib.hid hc
 clear hB hR hc
 go_enter Tryz.func116,Tryz.ntmps116
 go_wp2_with fail
 refine hn.mono ?_
 rintro r w1 ⟨rfl,hb⟩
 have HBL:=Lib.hid hb
 clear hn hb
 obtain⟨nb,hnb⟩ : ∃ nb,nb=w.heap.size:=⟨_,rfl⟩
 have HNB:=Lib.hid hnb
 rw[← hnb] at HBL
 clear hnb
 go_wp2_with fail
 go_loopw [3] (fun av wr=>av=.slice none 0 0∧Below nb w wr) (fun _ _=>0)
 case atStart=>exact⟨rfl,HBL.out⟩
 case round =>
 obtain⟨rfl,hbl⟩:=hrel
 have HBL0:Hid (Below w.heap.size w wr):=by rw[HNB.out] at hbl;exact hbl
 clear hbl
 have hc:=r4take_no EV i hi o c p ⟨#[115,105,110,99,101]⟩ (Or.inr HC.out) wr (HB.out.then HBL0.out) (HR.out.below HBL0.out)
 go_wp2_with fail
 refine hc.mono ?_
 rintro r v1 ⟨rfl,hb⟩
 have HBL1:=Lib.hid (below_next HBL0.out hb)
 clear hc hb HBL0
 go_wp2_with fail
 go_ret
 exact⟨rfl,HBL1.out⟩
set_option maxRecDepth 100000 in
set_option maxHeartbeats 1000000 in
theorem r4imp_fault (EV:Hid (EnvOk w0 rb a cc L)) (i:Nat) (hi:i≤200000) (o c p:Int) (hc:c≠0) (w:World) (hB:Al rb w0 w) (hR:Rd rb (.slice a L.length cc) w i o c p) :
  Calls Tryz.prog 103 #[.pointer (some ⟨rb,0,none⟩)] w fun e w'=>e=.returned (.slice none 0 0)∧Below w.heap.size w w':=by
 have hn:=r4since_fault EV i hi o c p hc w hB hR
 have HB:=Lib.hid hB
 have HR:=Lib.hid hR
 have HC:=Lib.hid hc
 clear hB hR hc
 go_enter Tryz.func103,Tryz.ntmps103
 go_wp2_with fail
 refine hn.mono ?_
 rintro r w1 ⟨rfl,hb⟩
 have HBL:=Lib.hid hb
 clear hn hb
 obtain⟨nb,hnb⟩ : ∃ nb,nb=w.heap.size:=⟨_,rfl⟩
 have HNB:=Lib.hid hnb
 rw[← hnb] at HBL
 have HBL0:Hid (Below w.heap.size w w1):=by rw[hnb] at HBL;exact HBL
 clear hnb
 have hc:=r4take_no EV i hi o c p ⟨#[61,62]⟩ (Or.inr HC.out) w1 (HB.out.then HBL0.out) (HR.out.below HBL0.out)
 go_wp2_with fail
 refine hc.mono ?_
 rintro r v1 ⟨rfl,hb⟩
 have HBL1:=Lib.hid (below_next HBL0.out hb)
 clear hc hb HBL0
 go_wp2_with fail
 go_ret
 exact⟨rfl,HBL1.out⟩
set_option maxRecDepth 100000 in
set_option maxHeartbeats 1000000 in
theorem r4Arrow_fault (EV:Hid (EnvOk w0 rb a cc L)) (i:Nat) (hi:i≤200000) (o c p:Int) (hc:c≠0) (w:World) (hB:Al rb w0 w) (hR:Rd rb (.slice a L.length cc) w i o c p) :
  Calls Tryz.prog 90 #[.pointer (some ⟨rb,0,none⟩)] w fun e w'=>e=.returned (.slice none 0 0)∧Below w.heap.size w w':=by
 have hn:=r4imp_fault EV i hi o c p hc w hB hR
 have HB:=Lib.hid hB
 have HR:=Lib.hid hR
 have HC:=Lib.hid hc
 clear hB hR hc
 go_enter Tryz.func90,Tryz.ntmps90
 go_wp2_with fail
 refine hn.mono ?_
 rintro r w1 ⟨rfl,hb⟩
 have HBL:=Lib.hid hb
 clear hn hb
 obtain⟨nb,hnb⟩ : ∃ nb,nb=w.heap.size:=⟨_,rfl⟩
 have HNB:=Lib.hid hnb
 rw[← hnb] at HBL
 have HBL0:Hid (Below w.heap.size w w1):=by rw[hnb] at HBL;exact HBL
 clear hnb
 have hc:=r4take_no EV i hi o c p ⟨#[45,62]⟩ (Or.inr HC.out) w1 (HB.out.then HBL0.out) (HR.out.below HBL0.out)
 go_wp2_with fail
 refine hc.mono ?_
 rintro r v1 ⟨rfl,hb⟩
 have HBL1:=Lib.hid (below_next HBL0.out hb)
 clear hc hb HBL0
 go_wp2_with fail
 go_ret
 exact⟨rfl,HBL1.out⟩
end
end Go.Proofs.YtmacepicoandkaaGreatDoor
