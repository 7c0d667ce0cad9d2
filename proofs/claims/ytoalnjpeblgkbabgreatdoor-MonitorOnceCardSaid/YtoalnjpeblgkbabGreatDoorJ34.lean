/- Monitor: plain mathematics: the first row in which a check does not hold. -/
import Derived.Test.YtoalnjpeblgkbabGreatDoorJ32
set_option linter.unusedVariables false
set_option linter.unusedSimpArgs false
namespace Go.Proofs.YtoalnjpeblgkbabGreatDoor
def firstD (h:Int):List (List Int)→Nat→Int
 | [],_=>-1
 | r :: rs,k=>if holdsB h r=true then firstD h rs (k+1) else k
theorem firstD_t {h:Int} {r:List Int} (hr:holdsB h r=true) (rs:List (List Int)) (k:Nat):firstD h (r :: rs) k=firstD h rs (k+1):=by simp[firstD,hr]
theorem firstD_f {h:Int} {r:List Int} (hr:¬ holdsB h r=true) (rs:List (List Int)) (k:Nat):firstD h (r :: rs) k=k:=by simp[firstD,hr]
theorem firstD_snoc (h:Int) (r:List Int):∀ (rs:List (List Int)) (k:Nat),firstD h (rs++[r]) k=if firstD h rs k = -1 then (if holdsB h r=true then -1 else ((k+rs.length:Nat):Int)) else firstD h rs k
 | [],k=>by simp[firstD]
 | x :: rs,k=>by
  rw[List.cons_append]
  by_cases hr:holdsB h x=true
  ·rw[firstD_t hr,firstD_t hr,firstD_snoc h r rs (k+1),List.length_cons,show k+1+rs.length=k+(rs.length+1) by omega]
  ·rw[firstD_f hr,firstD_f hr,if_neg (by omega)]
def firstL (l:List Chk) (rows:List (List Int)):List Int:=l.map fun c=>firstD c.holds rows 0
theorem firstL_len (l:List Chk) (rows:List (List Int)):(firstL l rows).length=l.length:=by simp[firstL]
theorem firstL_nil (l:List Chk):firstL l []=List.replicate l.length (-1):=by
 apply List.ext_getElem?
 intro i
 simp only[firstL,List.getElem?_map,List.getElem?_replicate]
 by_cases hi:i<l.length
 ·rw[List.getElem?_eq_getElem hi,if_pos hi];rfl
 ·rw[List.getElem?_eq_none (by omega),if_neg hi];rfl
def newly (l:List Chk) (fs:List Int) (row:List Int) (k:Nat):Bool :=
 match l[k]?,fs[k]? with
 | some c,some f=>(f == -1) && !holdsB c.holds row
 | _,_=>false
def failedTo (l:List Chk) (fs:List Int) (row:List Int) (k:Nat):List Int:=((List.range k).filter (newly l fs row)).map fun i:Nat=>(i:Int)
theorem failedTo_succ (l:List Chk) (fs:List Int) (row:List Int) (k:Nat):failedTo l fs row (k+1)=failedTo l fs row k++(if newly l fs row k=true then [(k:Int)] else []):=by
 unfold failedTo
 rw[List.range_succ,List.filter_append,List.map_append]
 by_cases h:newly l fs row k=true
 ·simp[h]
 ·simp[h]
theorem failedTo_len (l:List Chk) (fs:List Int) (row:List Int) (k:Nat):(failedTo l fs row k).length≤k:=by
 unfold failedTo
 rw[List.length_map]
 have:=List.length_filter_le (newly l fs row) (List.range k)
 simpa using this
def stepTo (l:List Chk) (fs:List Int) (row:List Int) (n:Int) (k:Nat):List Int:=(List.range fs.length).map fun i=>if i<k∧newly l fs row i=true then n else fs.getD i 0
theorem stepTo_len (l:List Chk) (fs:List Int) (row:List Int) (n:Int) (k:Nat):(stepTo l fs row n k).length=fs.length:=by simp[stepTo]
theorem stepTo_get (l:List Chk) (fs:List Int) (row:List Int) (n:Int) (k i:Nat) (hi:i<fs.length):(stepTo l fs row n k)[i]?=some (if i<k∧newly l fs row i=true then n else fs.getD i 0):=by
 unfold stepTo
 rw[List.getElem?_map,List.getElem?_range hi];rfl
theorem stepTo_zero (l:List Chk) (fs:List Int) (row:List Int) (n:Int):stepTo l fs row n 0=fs:=by
 apply List.ext_getElem?
 intro i
 by_cases hi:i<fs.length
 ·rw[stepTo_get _ _ _ _ _ _ hi,if_neg (by omega),List.getElem?_eq_getElem hi];simp[List.getD,hi]
 ·rw[List.getElem?_eq_none (by rw[stepTo_len];omega),List.getElem?_eq_none (by omega)]
theorem stepTo_skip (l:List Chk) (fs:List Int) (row:List Int) (n:Int) (k:Nat) (h:newly l fs row k=false):stepTo l fs row n (k+1)=stepTo l fs row n k:=by
 apply List.ext_getElem?
 intro i
 by_cases hi:i<fs.length
 ·rw[stepTo_get _ _ _ _ _ _ hi,stepTo_get _ _ _ _ _ _ hi]
  congr 1
  by_cases e:i=k
  ·subst e;rw[h];simp
  ·have:(i<k+1∧newly l fs row i=true)↔(i<k∧newly l fs row i=true):=by
    constructor <;> rintro ⟨a,b⟩ <;> exact⟨by omega,b⟩
   simp only[this]
 ·rw[List.getElem?_eq_none (by rw[stepTo_len];omega),List.getElem?_eq_none (by rw[stepTo_len];omega)]
theorem stepTo_set (l:List Chk) (fs:List Int) (row:List Int) (n:Int) (k:Nat) (h:newly l fs row k=true):stepTo l fs row n (k+1)=(stepTo l fs row n k).set k n:=by
 apply List.ext_getElem?
 intro i
 by_cases hi:i<fs.length
 ·rw[stepTo_get _ _ _ _ _ _ hi,List.getElem?_set,stepTo_get _ _ _ _ _ _ hi,stepTo_len]
  by_cases e:k=i
  ·subst e;simp[h,hi]
  ·rw[if_neg e]
   congr 1
   have:(i<k+1∧newly l fs row i=true)↔(i<k∧newly l fs row i=true):=by
    constructor <;> rintro ⟨a,b⟩ <;> exact⟨by omega,b⟩
   simp only[this]
 ·rw[List.getElem?_eq_none (by rw[stepTo_len];omega),List.getElem?_eq_none (by rw[List.length_set,stepTo_len];omega)]
theorem newly_first (l:List Chk) (rows:List (List Int)) (row:List Int) (k:Nat) (c:Chk) (hc:l[k]?=some c):newly l (firstL l rows) row k=((firstD c.holds rows 0 == -1) && !holdsB c.holds row):=by
 unfold newly firstL
 rw[List.getElem?_map,hc];rfl
theorem stepTo_first (l:List Chk) (rows:List (List Int)) (row:List Int):stepTo l (firstL l rows) row rows.length l.length=firstL l (rows++[row]):=by
 apply List.ext_getElem?
 intro i
 by_cases hi:i<l.length
 ·have hc:l[i]?=some l[i]:=List.getElem?_eq_getElem hi
  rw[stepTo_get _ _ _ _ _ _ (by rw[firstL_len];exact hi),newly_first l rows row i l[i] hc]
  have hg:(firstL l rows).getD i 0=firstD l[i].holds rows 0:=by
   unfold firstL;rw[List.getD,List.getElem?_map,hc];rfl
  have hg2:(firstL l (rows++[row]))[i]?=some (firstD l[i].holds (rows++[row]) 0):=by
   unfold firstL;rw[List.getElem?_map,hc];rfl
  rw[hg,hg2,firstD_snoc]
  congr 1
  by_cases h1:firstD l[i].holds rows 0 = -1
  ·rw[if_pos h1,h1]
   cases holdsB l[i].holds row <;> simp[hi]
  ·rw[if_neg h1,if_neg (by simp[h1])]
 ·rw[List.getElem?_eq_none (by rw[stepTo_len,firstL_len];omega),List.getElem?_eq_none (by rw[firstL_len];omega)]
end Go.Proofs.YtoalnjpeblgkbabGreatDoor
