/- The law MonitorWatches, whatever its arguments: the walk. -/
import Derived.Test.YtoalnjpeblgkbabGreatDoorJ37
set_option linter.unusedVariables false
set_option linter.unusedSimpArgs false
namespace Go.Proofs.YtoalnjpeblgkbabGreatDoor
open Go.RowKit
theorem take_last {rows:List (List Int)} {t:Nat} {r:List Int} (hr:rows[t]?=some r):rows.take (t+1)=rows.take t++[r]:=by rw[List.take_add_one,hr];rfl
theorem sln_empty {α:Type} {enc:α→List Value} {k:Nat} {M:List Nat} {w:World} {v:Value} {l:List α} (h:Sl enc k w v l) (h0:l=[]):SlN enc k M w v l:=by
 rcases h with h | ⟨b,o,c,h1,_⟩
 ·exact Or.inl h
 ·exact Or.inl ⟨h0,some ⟨b,o,none⟩,c,by rw[h1,h0];rfl⟩
theorem stepTo_take {l:List Chk} {rows:List (List Int)} {t:Nat} {r:List Int} (hr:rows[t]?=some r) {n:Nat} (hn:n=l.length):stepTo l (firstL l (rows.take t)) r (t:Int) n=firstL l (rows.take (t+1)):=by
 have ht:=(List.getElem?_eq_some_iff.1 hr).1
 have h1:=stepTo_first l (rows.take t) r
 rw[List.length_take,Nat.min_eq_left (by omega)] at h1
 rw[hn,h1,take_last hr]
end Go.Proofs.YtoalnjpeblgkbabGreatDoor
