/- An evaluator of the model's programs over blocks that have names of their own, not places: its text. -/
import Derived.Orders
import Derived.Tactics
set_option linter.unusedVariables false
set_option linter.unusedSimpArgs false
set_option linter.unusedVariables false
namespace Go.Proofs.YtdmelebgdaiinaaGreatDoor.Ev
noncomputable section
inductive Pos where | h | l (p:Pos) | r (p:Pos)
def toPos (f:Nat):Nat→Pos :=
 Nat.rec (motive:=fun _=>Nat→Pos) (fun _=>.h) (fun _ ih k=>Bool.rec (motive:=fun _=>Pos) (Bool.rec (motive:=fun _=>Pos) (.r (ih (Nat.pred (Nat.div k 2)))) (.l (ih (Nat.div k 2))) (Nat.beq (Nat.mod k 2) 1)) .h (Nat.beq k 0)) f
def pos (k:Nat):Pos:=toPos (Nat.succ k) k
inductive Tr (α:Type) where
 | leaf
 | node (l:Tr α) (v:Option α) (r:Tr α)
def Tr.val {α:Type} (t:Tr α):Option α:=Tr.rec (motive:=fun _=>Option α) none (fun _ v _ _ _=>v) t
def Tr.left {α:Type} (t:Tr α):Tr α:=Tr.rec (motive:=fun _=>Tr α) .leaf (fun l _ _ _ _=>l) t
def Tr.right {α:Type} (t:Tr α):Tr α:=Tr.rec (motive:=fun _=>Tr α) .leaf (fun _ _ r _ _=>r) t
def getP {α:Type} (p:Pos):Tr α→Option α:=Pos.rec (motive:=fun _=>Tr α→Option α) Tr.val (fun _ ih t=>ih t.left) (fun _ ih t=>ih t.right) p
def setP {α:Type} (v:Option α) (p:Pos):Tr α→Tr α :=
 Pos.rec (motive:=fun _=>Tr α→Tr α) (fun t=>Tr.rec (motive:=fun _=>Tr α) (.node .leaf v .leaf) (fun l _ r _ _=>.node l v r) t)
  (fun _ ih t=>Tr.rec (motive:=fun _=>Tr α) (.node (ih .leaf) none .leaf) (fun l v r _ _=>.node (ih l) v r) t)
  (fun _ ih t=>Tr.rec (motive:=fun _=>Tr α) (.node .leaf none (ih .leaf)) (fun l v r _ _=>.node l v (ih r)) t) p
inductive AV where
 | bool (b:Bool)
 | int (k:IntKind) (n:Int)
 | str (s:List Nat)
 | ptr (b off:Nat)
 | nilPtr
 | slice (b off len cap:Nat) (ex:Bool)
 | nilSlice
 | map (b:Nat)
 | nilMap
 | func (f:FuncId) (first captured:List AV)
 | nilFunc
 | iface (t:TypeId) (v:AV)
 | nilIface
 | agg (l:List AV)
 | tuple (l:List AV)
inductive Blk where
 | cells (cs:List AV) (size:Nat) (own:Bool) (sh:List Nat)
 | map (es:List (AV×AV)) (own:Bool)
 | iter (s:List Nat) (pos:Nat)
 | dfr
abbrev Hp:=Tr Blk
def getB (hp:Hp) (b:Nat):Option Blk:=getP (pos b) hp
def setB (v:Option Blk) (b:Nat) (hp:Hp):Hp:=setP v (pos b) hp
def bnd {α β:Type} (o:Option α) (f:α→Option β):Option β:=Option.rec (motive:=fun _=>Option β) none f o
def sel {α:Type} (b:Bool) (t e:α):α:=Bool.rec (motive:=fun _=>α) e t b
mutual
def avOf:Value→Option AV
 | .bool b=>some (.bool b)
 | .int k n=>some (.int k n)
 | .string s=>some (.str (s.data.toList.map UInt8.toNat))
 | .pointer none=>some .nilPtr
 | .slice none 0 0=>some .nilSlice
 | .map none=>some .nilMap
 | .nilFunc=>some .nilFunc
 | .nilIface=>some .nilIface
 | .iface t v=>match avOf v with | some a=>some (.iface t a) | none=>none
 | .agg ⟨l⟩=>match avsOf l with | some l=>some (.agg l) | none=>none
 | .tuple ⟨l⟩=>match avsOf l with | some l=>some (.tuple l) | none=>none
 | _=>none
def avsOf:List Value→Option (List AV)
 | []=>some []
 | v :: l=>match avOf v with | some a=>(match avsOf l with | some l=>some (a :: l) | none=>none) | none=>none
end
def plain1:AV→Option Value
 | .bool b=>some (.bool b)
 | .int k n=>some (.int k n)
 | .str s=>some (.string ⟨(s.map UInt8.ofNat).toArray⟩)
 | .nilPtr=>some (.pointer none)
 | .nilSlice=>some (.slice none 0 0)
 | .nilMap=>some (.map none)
 | .nilFunc=>some .nilFunc
 | .nilIface=>some .nilIface
 | _=>none
def plains:List AV→Option (List Value)
 | []=>some []
 | v :: l=>match plain1 v with | some a=>(match plains l with | some l=>some (a :: l) | none=>none) | none=>none
def pureRun {α:Type} (P:Program):Sem α→Option α
 | .pure a=>some a
 | .program k=>pureRun P (k P)
 | .mark _ k=>pureRun P k
 | _=>none
def asInt:AV→Option (IntKind×Int) | .int k n=>some (k,n) | _=>none
def asStr:AV→Option (List Nat) | .str s=>some s | _=>none
def asBool:AV→Option Bool | .bool b=>some b | _=>none
def asPtr:AV→Option (Nat×Nat) | .ptr b o=>some (b,o) | _=>none
def asAgg:AV→Option (List AV) | .agg l=>some l | _=>none
def asTuple:AV→Option (List AV) | .tuple l=>some l | _=>none
def asMap:AV→Option Nat | .map b=>some b | _=>none
def asNat (v:AV):Option Nat:=match v with | .int _ (.ofNat n)=>some n | _=>none
def AV.cells:AV→List AV | .agg l=>l | v=>[v]
def slot (tm:Tr AV) (t:Nat):AV:=Option.rec (motive:=fun _=>AV) (.tuple []) (fun v=>v) (getP (pos (Nat.succ t)) tm)
def opTmp (t:Nat) (tm:Tr AV):Option AV:=some (slot tm t)
def opConst (v:Value) (_:Tr AV):Option AV:=avOf v
def opGlobal (P:Program) (g:Nat) (_:Tr AV):Option AV:=sel (Nat.blt g P.globals.size) (some (.ptr g 0)) none
def opFunc (f:FuncId) (_:Tr AV):Option AV:=some (.func f [] [])
def opnd (P:Program) (x:Operand):Tr AV→Option AV:=Operand.rec (motive:=fun _=>Tr AV→Option AV) opTmp opConst (opGlobal P) opFunc x
def opnds (P:Program) (tm:Tr AV) (l:List Operand):Option (List AV) :=
 List.rec (motive:=fun _=>Option (List AV)) (some []) (fun x _ r=>bnd (opnd P x tm) fun a=>bnd r fun l=>some (a :: l)) l
def sizeOf? (P:Program) (t:TypeId):Option Nat:=match P.info? t with | some i=>some i.size | none=>none
def zero? (P:Program) (t:TypeId):Option AV:=match P.info? t with | some i=>(match i.zero with | some v=>avOf v | none=>none) | none=>none
def isAgg? (P:Program) (t:TypeId):Option Bool:=match P.underlying t with | some (.struct _) | some (.array _ _)=>some true | some _=>some false | none=>none
def aggSize (P:Program) (t:TypeId):Option (Option Nat) :=
 match isAgg? P t with | some true=>(match sizeOf? P t with | some s=>some (some s) | none=>none) | some false=>some none | none=>none
def structOf (P:Program) (t:TypeId):Option (Array Field):=match P.underlying t with | some (.struct fs)=>some fs | _=>none
def takeN {α:Type} (n:Nat):List α→Option (List α) :=
 Nat.rec (motive:=fun _=>List α→Option (List α)) (fun _=>some [])
  (fun _ tk l=>List.rec (motive:=fun _=>Option (List α)) none (fun a l _=>bnd (tk l) fun r=>some (a :: r)) l) n
def dropN {α:Type} (l:List α):Nat→List α :=
 List.rec (motive:=fun _=>Nat→List α) (fun _=>[]) (fun a l d k=>sel (Nat.beq k 0) (a :: l) (d (Nat.pred k))) l
def nth {α:Type} (l:List α):Nat→Option α :=
 List.rec (motive:=fun _=>Nat→Option α) (fun _=>none) (fun a _ d k=>sel (Nat.beq k 0) (some a) (d (Nat.pred k))) l
def over {α:Type} (vs:List α):List α→Option (List α) :=
 List.rec (motive:=fun _=>List α→Option (List α)) some
  (fun v _ ov cs=>List.rec (motive:=fun _=>Option (List α)) none (fun _ cs _=>bnd (ov cs) fun r=>some (v :: r)) cs) vs
def setAt {α:Type} (vs:List α) (cs:List α):Nat→Option (List α) :=
 List.rec (motive:=fun _=>Nat→Option (List α)) (fun k=>sel (Nat.beq k 0) (over vs []) none)
  (fun c cs st k=>sel (Nat.beq k 0) (over vs (c :: cs)) (bnd (st (Nat.pred k)) fun r=>some (c :: r))) cs
def lenL {α:Type} (l:List α):Nat:=List.rec (motive:=fun _=>Nat) 0 (fun _ _ n=>Nat.succ n) l
def app {α:Type} (l m:List α):List α:=List.rec (motive:=fun _=>List α) m (fun a _ r=>a :: r) l
def repN {α:Type} (l:List α) (n:Nat):List α:=Nat.rec (motive:=fun _=>List α) [] (fun _ r=>app l r) n
def rowOf (cs:List AV) (off:Nat) (s:Option Nat):Option AV :=
 Option.rec (motive:=fun _=>Option AV) (nth cs off) (fun n=>bnd (takeN n (dropN cs off)) fun l=>some (.agg l)) s
def strEq (x:List Nat):List Nat→Bool :=
 List.rec (motive:=fun _=>List Nat→Bool) (fun y=>List.rec (motive:=fun _=>Bool) true (fun _ _ _=>false) y)
  (fun a _ eq y=>List.rec (motive:=fun _=>Bool) false (fun b y _=>sel (Nat.beq a b) (eq y) false) y) x
def strLess (x:List Nat):List Nat→Bool :=
 List.rec (motive:=fun _=>List Nat→Bool) (fun y=>List.rec (motive:=fun _=>Bool) false (fun _ _ _=>true) y)
  (fun a _ lt y=>List.rec (motive:=fun _=>Bool) false (fun b y _=>sel (Nat.beq a b) (lt y) (Nat.blt a b)) y) x
def strBin (op:BinOp) (x y:List Nat):Option AV :=
 match op with
 | .add=>sel (Nat.ble (lenL x+lenL y) 1000000) (some (.str (app x y))) none
 | .eql=>some (.bool (strEq x y))
 | .neq=>some (.bool (not (strEq x y)))
 | .lss=>some (.bool (strLess x y))
 | .leq=>some (.bool (or (strLess x y) (strEq x y)))
 | .gtr=>some (.bool (not (or (strLess x y) (strEq x y))))
 | .geq=>some (.bool (not (strLess x y)))
 | _=>none
def iEq (a b:Int):Bool:=match a,b with | .ofNat a,.ofNat b=>Nat.beq a b | .negSucc a,.negSucc b=>Nat.beq a b | _,_=>false
def iLe (a b:Int):Bool:=match a,b with | .ofNat a,.ofNat b=>Nat.ble a b | .negSucc a,.negSucc b=>Nat.ble b a | .negSucc _,.ofNat _=>true | .ofNat _,.negSucc _=>false
def iEql (a b:Int):Option AV:=some (.bool (iEq a b))
def iNeq (a b:Int):Option AV:=some (.bool (not (iEq a b)))
def iLss (a b:Int):Option AV:=some (.bool (not (iLe b a)))
def iLeq (a b:Int):Option AV:=some (.bool (iLe a b))
def iGtr (a b:Int):Option AV:=some (.bool (not (iLe a b)))
def iGeq (a b:Int):Option AV:=some (.bool (iLe b a))
def valOf (s:Sem Value):Option AV:=match s with | .pure v=>avOf v | _=>none
def intBin (op:BinOp) (k:IntKind) (a b:Int):Option AV :=
 match op with
 | .add=>some (.int k (k.wrap (Int.add a b)))
 | .sub=>some (.int k (k.wrap (Int.sub a b)))
 | .eql=>iEql a b
 | .neq=>iNeq a b
 | .lss=>iLss a b
 | .leq=>iLeq a b
 | .gtr=>iGtr a b
 | .geq=>iGeq a b
 | op=>valOf (binOp op 0 (.int k a) (.int k b))
def kindEq (a b:IntKind):Bool:=Nat.beq (IntKind.ctorIdx a) (IntKind.ctorIdx b)
def isShift (op:BinOp):Bool:=match op with | .shl | .shr=>true | _=>false
def shiftBin (op:BinOp) (k:IntKind) (a:Int) (k':IntKind) (b:Int):Option AV:=valOf (Op.shift op k a k' b)
def binInt (k:IntKind) (a:Int) (op:BinOp) (y:AV):Option AV :=
 bnd (asInt y) fun p=>sel (isShift op) (shiftBin op k a p.1 p.2) (sel (kindEq k p.1) (intBin op k a p.2) none)
inductive EK where | ptr | slice | map | func | iface | bool | agg
def eqKind (P:Program) (t:TypeId):Option EK :=
 match P.underlying t with
 | some (.pointer _)=>some .ptr
 | some (.slice _)=>some .slice
 | some (.map _ _)=>some .map
 | some (.func _ _ _)=>some .func
 | some (.interface _)=>some .iface
 | some .bool=>some .bool
 | some (.struct _)=>some .agg
 | _=>none
def nilAs (k:EK) (v:AV):Option Bool :=
 match k,v with
 | .ptr,.nilPtr=>some true | .ptr,.ptr _ _=>some false
 | .slice,.nilSlice=>some true | .slice,.slice _ _ _ _ _=>some false
 | .map,.nilMap=>some true | .map,.map _=>some false
 | .func,.nilFunc=>some true | .func,.func _ _ _=>some false
 | .iface,.nilIface=>some true | .iface,.iface _ _=>some false
 | _,_=>none
def isConst:Operand→Bool | .const _=>true | _=>false
def eqBool (x y:AV):Option Bool:=bnd (asBool x) fun a=>bnd (asBool y) fun b=>some (sel a b (not b))
def eqNil (k:EK) (x y:AV) (c:Bool):Option Bool :=
 bnd (nilAs k x) fun a=>bnd (nilAs k y) fun b=>sel (or a b) (sel (and a (and b (not c))) none (some (and a b))) none
def eqAgg (P:Program) (t:TypeId) (x y:AV):Option Bool :=
 bnd (bnd (asAgg x) plains) fun a=>bnd (bnd (asAgg y) plains) fun b=>sel (P.eqGuardType P.depth t) none (pureRun P (Op.equal t (.agg ⟨a⟩) (.agg ⟨b⟩)))
def eqAs (P:Program) (t:TypeId) (x y:AV) (c:Bool):Option Bool :=
 bnd (eqKind P t) fun k=>match k with | .bool=>eqBool x y | .agg=>eqAgg P t x y | k=>eqNil k x y c
def eqOp (P:Program) (op:BinOp) (t:TypeId) (x y:AV) (c:Bool):Option AV :=
 match op with
 | .eql=>bnd (eqAs P t x y c) fun b=>some (.bool b)
 | .neq=>bnd (eqAs P t x y c) fun b=>some (.bool (not b))
 | _=>none
def binP (P:Program) (op:BinOp) (t:TypeId) (x y:AV) (c:Bool):Option AV :=
 match x with
 | .int k a=>binInt k a op y
 | .str s=>bnd (asStr y) fun t=>strBin op s t
 | x=>eqOp P op t x y c
def optNat (o:Option AV) (d:Nat):Option Nat:=match o with | none=>some d | some v=>asNat v
def bounds (len cap:Nat) (lo hi mx:Option AV):Option (Nat×Nat×Nat) :=
 bnd (optNat mx cap) fun m=>bnd (optNat hi len) fun h=>bnd (optNat lo 0) fun l =>
  sel (and (or hi.isSome (not mx.isSome)) (and (Nat.ble m cap) (and (Nat.ble h m) (Nat.ble l h)))) (some (l,h,m)) none
inductive SK where | str | sl (sz:Nat) | arr (n sz:Nat)
def sliceKind (P:Program) (t:TypeId):Option SK :=
 match P.underlying t with
 | some .string=>some .str
 | some (.slice e)=>(match sizeOf? P e with | some s=>some (.sl s) | none=>none)
 | some (.array n e)=>(match sizeOf? P e with | some s=>some (.arr n s) | none=>none)
 | _=>none
def sliceSl (b off len cap:Nat) (ex:Bool) (sz:Nat) (lo hi mx:Option AV):Option AV :=
 bnd (bounds len cap lo hi mx) fun p=>some (.slice b (off+p.1 * sz) (p.2.1 - p.1) (p.2.2 - p.1) (or ex mx.isSome))
def sliceP (k:SK) (x:AV) (lo hi mx:Option AV):Option AV :=
 match k with
 | .str=>bnd (asStr x) fun s=>bnd (bounds (lenL s) (lenL s) lo hi none) fun p=>bnd (takeN (p.2.1 - p.1) (dropN s p.1)) fun r=>sel mx.isSome none (some (.str r))
 | .sl sz=>match x with
  | .slice b off len cap ex=>sliceSl b off len cap ex sz lo hi mx
  | .nilSlice=>bnd (bounds 0 0 lo hi mx) fun _=>some .nilSlice
  | _=>none
 | .arr n sz=>bnd (asPtr x) fun p=>bnd (bounds n n lo hi mx) fun q=>some (.slice p.1 (p.2+q.1 * sz) (q.2.1 - q.1) (q.2.2 - q.1) true)
def fillC (place:Nat→Option (Nat×Nat)) (ps:List (Nat×AV)):List AV→Option (List AV) :=
 List.rec (motive:=fun _=>List AV→Option (List AV)) some
  (fun p _ fl cells=>bnd (place p.1) fun q=>sel (Nat.beq (lenL p.2.cells) q.2) (bnd (setAt p.2.cells cells q.1) fl) none) ps
def fieldsP (P:Program) (fs:List Field):Option (List (Nat×Nat)) :=
 List.rec (motive:=fun _=>Option (List (Nat×Nat))) (some []) (fun f _ r=>bnd (sizeOf? P f.type) fun s=>bnd r fun l=>some ((f.offset,s) :: l)) fs
def partsP (P:Program) (tm:Tr AV) (l:List (Nat×Operand)):Option (List (Nat×AV)) :=
 List.rec (motive:=fun _=>Option (List (Nat×AV))) (some []) (fun p _ r=>bnd (opnd P p.2 tm) fun a=>bnd r fun l=>some ((p.1,a) :: l)) l
def optOp (P:Program) (x:Option Operand) (tm:Tr AV):Option (Option AV):=match x with | none=>some none | some x=>bnd (opnd P x tm) fun a=>some (some a)
inductive R where
 | ok (v:AV) (hp:Hp) (nx:Nat)
 | call (f:FuncId) (args:List AV)
 | no
def pureR (o:Option AV) (hp:Hp) (nx:Nat):R:=Option.rec (motive:=fun _=>R) .no (fun v=>.ok v hp nx) o
def newR (o:Option (AV×Blk)) (hp:Hp) (nx:Nat):R:=Option.rec (motive:=fun _=>R) .no (fun p=>.ok p.1 (setB (some p.2) nx hp) (Nat.succ nx)) o
def runR {α:Type} (o:Option α) (f:α→R):R:=Option.rec (motive:=fun _=>R) .no f o
def okR (v:AV) (nx:Nat) (o:Option Hp):R:=Option.rec (motive:=fun _=>R) .no (fun hp=>.ok v hp nx) o
abbrev X:=Program→Tr AV→Hp→Nat→R
def xNo:X:=fun _ _ _ _=>.no
def xMove (x:Operand):X:=fun P tm hp nx=>pureR (opnd P x tm) hp nx
def xPick (c a b:Operand):X:=fun P tm hp nx=>pureR (bnd (bnd (opnd P c tm) asBool) fun t=>sel t (opnd P a tm) (opnd P b tm)) hp nx
def notNil (v:AV):Option AV:=match v with | .ptr b o=>some (.ptr b o) | _=>none
def xNilCheck (x:Operand):X:=fun P tm hp nx=>pureR (bnd (opnd P x tm) notNil) hp nx
def xBin (op:BinOp) (t:TypeId) (x y:Operand):X:=fun P tm hp nx=>pureR (bnd (opnd P x tm) fun a=>bnd (opnd P y tm) fun b=>binP P op t a b (or (isConst x) (isConst y))) hp nx
def unP (op:UnOp) (x:AV):Option AV :=
 match x with
 | .bool b=>match op with | .not=>some (.bool (not b)) | _=>none
 | .int k n=>valOf (Op.unary op (.int k n))
 | _=>none
def xUn (op:UnOp) (x:Operand):X:=fun P tm hp nx=>pureR (bnd (opnd P x tm) (unP op)) hp nx
inductive CK where | int (k:IntKind) | same | chr
def convKind (P:Program) (s d:TypeId):Option CK :=
 match P.underlying s,P.underlying d with
 | some (.int _),some (.int k)=>some (.int k)
 | some .string,some .string=>some .same
 | some (.int _),some .string=>some .chr
 | _,_=>none
def convP (k:CK) (v:AV):Option AV :=
 match k with
 | .int k=>bnd (asInt v) fun p=>some (.int k (k.wrap p.2))
 | .same=>bnd (asStr v) fun s=>some (.str s)
 | .chr=>bnd (asInt v) fun p=>valOf (Conv.intToString p.2)
def xConv (s d:TypeId) (x:Operand):X:=fun P tm hp nx=>pureR (bnd (convKind P s d) fun k=>bnd (opnd P x tm) fun v=>convP k v) hp nx
def ifaceOk (P:Program) (t:TypeId):Bool:=match P.underlying t with | some (.interface _)=>false | some _=>true | none=>false
def xIface (t:TypeId) (x:Operand):X:=fun P tm hp nx=>pureR (sel (ifaceOk P t) (bnd (opnd P x tm) fun v=>some (.iface t v)) none) hp nx
def xFunc (fn:Fn) (first captured:Array Operand):X:=fun P tm hp nx =>
 match fn with
 | .func f=>pureR (bnd (opnds P tm first.toList) fun a=>bnd (opnds P tm captured.toList) fun b=>some (.func f a b)) hp nx
 | _=>.no
def xSlice (t:TypeId) (x:Operand) (lo hi mx:Option Operand):X:=fun P tm hp nx =>
 pureR (bnd (sliceKind P t) fun k=>bnd (opnd P x tm) fun x=>bnd (optOp P lo tm) fun lo=>bnd (optOp P hi tm) fun hi=>bnd (optOp P mx tm) fun mx=>sliceP k x lo hi mx) hp nx
def fieldOff (P:Program) (s:TypeId) (f:Nat):Option Nat :=
 bnd (structOf P s) fun fs=>bnd fs[f]? fun g=>bnd (sizeOf? P g.type) fun sz=>sel (Nat.beq sz 0) none (some g.offset)
def xFieldAddr (s:TypeId) (x:Operand) (f:Nat):X:=fun P tm hp nx =>
 pureR (bnd (fieldOff P s f) fun d=>bnd (bnd (opnd P x tm) asPtr) fun p=>some (.ptr p.1 (p.2+d))) hp nx
def fieldPart (P:Program) (s:TypeId) (f:Nat):Option (Nat×Option Nat) :=
 bnd (structOf P s) fun fs=>bnd fs[f]? fun g=>bnd (aggSize P g.type) fun sz=>some (g.offset,sz)
def xField (s:TypeId) (x:Operand) (f:Nat):X:=fun P tm hp nx =>
 pureR (bnd (fieldPart P s f) fun d=>bnd (bnd (opnd P x tm) asAgg) fun l=>rowOf l d.1 d.2) hp nx
def overOf (P:Program) (t:TypeId):Option (Option Nat×Nat) :=
 match P.underlying t with
 | some (.slice e)=>(match sizeOf? P e with | some s=>some (none,s) | none=>none)
 | some (.array n e)=>(match sizeOf? P e with | some s=>some (some n,s) | none=>none)
 | _=>none
def baseOf (n:Option Nat) (v:AV):Option (Nat×Nat×Nat) :=
 match n with
 | none=>(match v with | .slice b off len cap _=>sel (Nat.ble len cap) (some (b,off,len)) none | _=>none)
 | some n=>(match v with | .ptr b off=>some (b,off,n) | _=>none)
def xIndexAddr (t:TypeId) (x i:Operand):X:=fun P tm hp nx =>
 pureR (bnd (overOf P t) fun k=>bnd (bnd (opnd P i tm) asNat) fun i=>bnd (bnd (opnd P x tm) (baseOf k.1)) fun p =>
  sel (Nat.blt i p.2.2) (some (.ptr p.1 (p.2.1+i * k.2))) none) hp nx
inductive IK where | str | arr (n:Nat) (sz:Nat) (part:Option Nat)
def indexKind (P:Program) (t:TypeId):Option IK :=
 match P.underlying t with
 | some .string=>some .str
 | some (.array n e)=>(match sizeOf? P e,aggSize P e with | some s,some p=>some (.arr n s p) | _,_=>none)
 | _=>none
def indexP (k:IK) (v:AV) (i:Nat):Option AV :=
 match k with
 | .str=>bnd (asStr v) fun s=>bnd (nth s i) fun c=>some (.int .u8 (Int.ofNat c))
 | .arr n sz p=>bnd (asAgg v) fun l=>sel (Nat.blt i n) (rowOf l (i * sz) p) none
def xIndex (t:TypeId) (x i:Operand):X:=fun P tm hp nx =>
 pureR (bnd (indexKind P t) fun k=>bnd (bnd (opnd P i tm) asNat) fun i=>bnd (opnd P x tm) fun v=>indexP k v i) hp nx
def xExtract (x:Operand) (i:Nat):X:=fun P tm hp nx=>pureR (bnd (bnd (opnd P x tm) asTuple) fun l=>nth l i) hp nx
def assertP (P:Program) (t:TypeId) (ok:Bool) (v:AV):Option AV :=
 match v with
 | .iface u v=>sel (Nat.beq u t) (sel ok (some (.tuple [v,.bool true])) (some v)) (sel ok (bnd (zero? P t) fun z=>some (.tuple [z,.bool false])) none)
 | .nilIface=>sel ok (bnd (zero? P t) fun z=>some (.tuple [z,.bool false])) none
 | _=>none
def xAssert (x:Operand) (t:TypeId) (ok:Bool):X:=fun P tm hp nx=>pureR (sel (ifaceOk P t) (bnd (opnd P x tm) (assertP P t ok)) none) hp nx
inductive BK where | fields (l:List (Nat×Nat)) | elems (sz:Nat)
def buildKind (P:Program) (t:TypeId):Option BK :=
 match P.underlying t with
 | some (.struct fs)=>bnd (fieldsP P fs.toList) fun l=>some (.fields l)
 | some (.array _ e)=>bnd (sizeOf? P e) fun s=>some (.elems s)
 | _=>none
def placeOf (k:BK) (i:Nat):Option (Nat×Nat):=match k with | .fields l=>nth l i | .elems s=>some (i * s,s)
def xBuild (t:TypeId) (parts:Array (Nat×Operand)):X:=fun P tm hp nx =>
 pureR (bnd (buildKind P t) fun k=>bnd (partsP P tm parts.toList) fun ps=>bnd (zero? P t) fun z=>bnd (fillC (placeOf k) ps z.cells) fun cs=>some (.agg cs)) hp nx
def cellsB (b:Blk):Option (List AV):=match b with | .cells cs _ _ _=>some cs | _=>none
def mapB (b:Blk):Option (List (AV×AV)):=match b with | .map es _=>some es | _=>none
def loadB (hp:Hp) (s:Option Nat) (p:Nat×Nat):Option AV:=bnd (bnd (getB hp p.1) cellsB) fun cs=>rowOf cs p.2 s
def xLoad (t:TypeId) (x:Operand):X:=fun P tm hp nx =>
 pureR (bnd (aggSize P t) fun s=>bnd (bnd (opnd P x tm) asPtr) fun p=>loadB hp s p) hp nx
inductive KK where | int | str | bool
def keyKind (P:Program) (t:TypeId):Option KK:=match P.underlying t with | some (.int _)=>some .int | some .string=>some .str | some .bool=>some .bool | _=>none
def mapKind (P:Program) (t:TypeId):Option (KK×AV) :=
 match P.underlying t with | some (.map k e)=>bnd (keyKind P k) fun kk=>bnd (zero? P e) fun z=>some (kk,z) | _=>none
def keyEq (kk:KK) (x y:AV):Option Bool :=
 match kk with
 | .int=>bnd (asInt x) fun a=>bnd (asInt y) fun b=>sel (kindEq a.1 b.1) (some (iEq a.2 b.2)) none
 | .str=>bnd (asStr x) fun a=>bnd (asStr y) fun b=>some (strEq a b)
 | .bool=>eqBool x y
def findK (kk:KK) (k:AV) (es:List (AV×AV)):Option (Option AV) :=
 List.rec (motive:=fun _=>Option (Option AV)) (some none) (fun e _ r=>bnd (keyEq kk k e.1) fun t=>sel t (some (some e.2)) r) es
def updK (kk:KK) (k v:AV) (es:List (AV×AV)):Option (List (AV×AV)) :=
 List.rec (motive:=fun _=>Option (List (AV×AV))) (some [(k,v)]) (fun e l r=>bnd (keyEq kk k e.1) fun t=>sel t (some ((k,v) :: l)) (bnd r fun l=>some (e :: l))) es
def delK (kk:KK) (k:AV) (es:List (AV×AV)):Option (List (AV×AV)) :=
 List.rec (motive:=fun _=>Option (List (AV×AV))) (some []) (fun e l r=>bnd (keyEq kk k e.1) fun t=>sel t (some l) (bnd r fun l=>some (e :: l))) es
def entries (hp:Hp) (v:AV):Option (List (AV×AV)):=match v with | .map b=>bnd (getB hp b) mapB | .nilMap=>some [] | _=>none
def xLookup (t:TypeId) (x i:Operand) (ok:Bool):X:=fun P tm hp nx =>
 pureR (bnd (mapKind P t) fun z=>bnd (opnd P i tm) fun k=>bnd (bnd (opnd P x tm) (entries hp)) fun es=>bnd (keyEq z.1 k k) fun _=>bnd (findK z.1 k es) fun f =>
  some (sel ok (AV.tuple [f.getD z.2,.bool f.isSome]) (f.getD z.2))) hp nx
def xAlloc (t:TypeId):X:=fun P _ hp nx=>newR (bnd (zero? P t) fun z=>bnd (sizeOf? P t) fun s=>some (.ptr nx 0,.cells z.cells s true [])) hp nx
def xBox (t:TypeId) (x:Operand):X:=fun P tm hp nx=>newR (bnd (opnd P x tm) fun v=>bnd (sizeOf? P t) fun s=>some (.ptr nx 0,.cells v.cells s true [])) hp nx
def elemZero (P:Program) (t:TypeId):Option (Nat×List AV) :=
 match P.underlying t with
 | some (.slice e)=>(match P.info? e,zero? P e with | some i,some z=>sel (and (Nat.beq (lenL z.cells) i.size) (and (Nat.ble i.bytes 4096) (and (Nat.ble i.size 64) (Nat.blt 0 i.size)))) (some (i.size,z.cells)) none | _,_=>none)
 | _=>none
def xBuildSlice (t:TypeId) (n:Nat) (parts:Array (Nat×Operand)):X:=fun P tm hp nx =>
 newR (bnd (elemZero P t) fun e=>bnd (partsP P tm parts.toList) fun ps=>bnd (fillC (placeOf (.elems e.1)) ps (repN e.2 n)) fun cs =>
  sel (Nat.ble n 100000) (some (.slice nx 0 n n true,.cells cs e.1 true [])) none) hp nx
def xMakeSlice (t:TypeId) (l c:Operand):X:=fun P tm hp nx =>
 newR (bnd (elemZero P t) fun e=>bnd (bnd (opnd P l tm) asNat) fun l=>bnd (bnd (opnd P c tm) asNat) fun c =>
  sel (and (Nat.ble l c) (Nat.ble c 100000)) (some (.slice nx 0 l c true,.cells (repN e.2 c) e.1 true [])) none) hp nx
def xMakeMap (r:Option Operand):X:=fun _ _ hp nx=>newR (sel r.isNone (some (.map nx,.map [] true)) none) hp nx
def isString (P:Program) (t:TypeId):Bool:=match P.underlying t with | some .string=>true | _=>false
def xRange (t:TypeId) (x:Operand):X:=fun P tm hp nx =>
 newR (sel (isString P t) (bnd (bnd (opnd P x tm) asStr) fun s=>some (.ptr nx 0,.iter s 0)) none) hp nx
def killAll (l:List Nat):Hp→Hp:=List.rec (motive:=fun _=>Hp→Hp) (fun hp=>hp) (fun b _ k hp=>k (setB none b hp)) l
def ownB (b:Blk):Option (List AV×Nat×List Nat):=match b with | .cells cs sz true sh=>some (cs,sz,sh) | _=>none
def lone (v:AV):Bool:=match v with | .agg _=>false | .tuple _=>false | _=>true
def lones (l:List AV):Bool:=List.rec (motive:=fun _=>Bool) true (fun v _ r=>sel (lone v) r false) l
def storeB (hp:Hp) (b off:Nat) (vs:List AV):Option Hp :=
 bnd (bnd (getB hp b) ownB) fun q=>bnd (setAt vs q.1 off) fun cs=>sel (lones vs) (some (setB (some (.cells cs q.2.1 true [])) b (killAll q.2.2 hp))) none
def xStore (t:TypeId) (x v:Operand):X:=fun P tm hp nx =>
 okR (.tuple []) nx (bnd (sizeOf? P t) fun s=>bnd (bnd (opnd P x tm) asPtr) fun p=>bnd (opnd P v tm) fun v=>sel (Nat.beq (lenL v.cells) s) (storeB hp p.1 p.2 v.cells) none)
def ownMap (b:Blk):Option (List (AV×AV)):=match b with | .map es true=>some es | _=>none
def xUpdate (t:TypeId) (m k v:Operand):X:=fun P tm hp nx =>
 okR (.tuple []) nx (bnd (mapKind P t) fun z=>bnd (bnd (opnd P m tm) asMap) fun b=>bnd (opnd P k tm) fun k=>bnd (opnd P v tm) fun v=>bnd (bnd (getB hp b) ownMap) fun es =>
  bnd (keyEq z.1 k k) fun _=>bnd (updK z.1 k v es) fun es=>some (setB (some (.map es true)) b hp))
def iterB (b:Blk):Option (List Nat×Nat):=match b with | .iter s pos=>some (s,pos) | _=>none
def nextB (hp:Hp) (nx b:Nat) (s:List Nat) (pos:Nat):R :=
 Option.rec (motive:=fun _=>R) (.ok (.tuple [.bool false]) hp nx) (fun c =>
  sel (Nat.blt c 128) (.ok (.tuple [.bool true,.int .i64 (Int.ofNat pos),.int .i32 (Int.ofNat c)]) (setB (some (.iter s (Nat.succ pos))) b hp) nx) .no) (nth s pos)
def xNext (x:Operand) (isString:Bool):X:=fun P tm hp nx =>
 runR (bnd (opnd P x tm) asPtr) fun p=>runR (bnd (getB hp p.1) iterB) fun q=>sel (and isString (Nat.beq p.2 0)) (nextB hp nx p.1 q.1 q.2) .no
def cellsOf (hp:Hp) (sz n:Nat) (v:AV):Option (List AV) :=
 match v with
 | .slice b off _ cap _=>sel (Nat.beq n 0) (some []) (sel (Nat.ble n cap) (bnd (bnd (getB hp b) cellsB) fun cs=>takeN (n * sz) (dropN cs off)) none)
 | .nilSlice=>sel (Nat.beq n 0) (some []) none
 | _=>none
def lenOf (v:AV):Option Nat:=match v with | .slice _ _ n _ _=>some n | .nilSlice=>some 0 | _=>none
def growB (hp:Hp) (nx sz:Nat) (b off n cap:Nat) (ex:Bool) (more:Nat) (new:List AV) (k:Blk):R :=
 match k with
 | .cells cs bs own sh=>sel (Nat.ble (n+more) 1000000) (runR (takeN (n * sz) (dropN cs off)) fun old =>
  sel ex (.ok (.slice nx 0 (n+more) (n+more) false) (setB (some (.cells (app old new) sz true [])) nx hp) (Nat.succ nx))
   (sel (and own (and (Nat.beq n cap) (and (Nat.beq (off+n * sz) (lenL cs)) (and (Nat.beq bs sz) (lones new)))))
    (.ok (.slice nx 0 (n+more) (n+more) false) (setB (some (.cells (app old new) sz true (b :: sh))) nx (setB (some (.cells cs bs false [])) b hp)) (Nat.succ nx)) .no)) .no
 | _=>.no
def appendB (hp:Hp) (nx sz:Nat) (s:AV) (more:Nat) (new:List AV):R :=
 match s with
 | .nilSlice=>sel (Nat.beq more 0) (.ok .nilSlice hp nx) (.ok (.slice nx 0 more more false) (setB (some (.cells new sz true [])) nx hp) (Nat.succ nx))
 | .slice b off n cap ex =>
  sel (Nat.ble (n+more) cap)
   (sel (Nat.beq more 0) (.ok (.slice b off n cap ex) hp nx) (okR (.slice b off (n+more) cap ex) nx (storeB hp b (off+n * sz) new)))
   (sel (Nat.ble n cap) (runR (getB hp b) (growB hp nx sz b off n cap ex more new)) .no)
 | _=>.no
def newCells (hp:Hp) (e:Nat×List AV) (x:AV):Option (Nat×List AV) :=
 bnd (lenOf x) fun n=>bnd (cellsOf hp e.1 n x) fun new=>some (n,new)
def zeroCellsP (e:Nat×List AV) (x:AV):Option (Nat×List AV):=bnd (asNat x) fun n=>some (n,repN e.2 n)
def zerosOf (P:Program) (ts:Array TypeId):Option Bool :=
 match ts with | ⟨[_,u]⟩=>(match P.underlying u with | some (.int _)=>some true | some (.slice _)=>some false | _=>none) | _=>none
def headT (ts:Array TypeId):Option TypeId:=match ts with | ⟨t :: _⟩=>some t | _=>none
def arg2 (f:AV→AV→R) (vs:List AV):R:=match vs with | [a,b]=>f a b | _=>.no
def arg1 (f:AV→R) (vs:List AV):R:=match vs with | [a]=>f a | _=>.no
def xbAppend (P:Program) (ts:Array TypeId) (vs:List AV) (hp:Hp) (nx:Nat):R :=
 runR (bnd (headT ts) (elemZero P)) fun e=>runR (zerosOf P ts) fun z=>arg2 (fun s x=>runR (sel z (zeroCellsP e x) (newCells hp e x)) fun q =>
  sel (Nat.ble q.1 100000) (appendB hp nx e.1 s q.1 q.2) .no) vs
def copyB (sz:Nat) (d x:AV) (n:Nat) (hp:Hp) (nx:Nat):R :=
 runR (cellsOf hp sz n x) fun new=>match d with
  | .nilSlice=>.ok (.int .i64 0) hp nx
  | .slice b off _ cap _=>sel (Nat.beq n 0) (.ok (.int .i64 0) hp nx) (sel (Nat.ble n cap) (okR (.int .i64 (Int.ofNat n)) nx (storeB hp b off new)) .no)
  | _=>.no
def xbCopy (P:Program) (ts:Array TypeId) (vs:List AV) (hp:Hp) (nx:Nat):R :=
 runR (bnd (headT ts) (elemZero P)) fun e=>arg2 (fun d x=>runR (lenOf d) fun dl=>runR (lenOf x) fun xl=>copyB e.1 d x (sel (Nat.blt xl dl) xl dl) hp nx) vs
inductive LK where | str | slice | map
def lenKind (P:Program) (ts:Array TypeId):Option LK :=
 bnd (headT ts) fun t=>match P.underlying t with | some .string=>some .str | some (.slice _)=>some .slice | some (.map _ _)=>some .map | _=>none
def lenP (k:LK) (v:AV) (hp:Hp):Option Nat :=
 match k with
 | .str=>bnd (asStr v) fun s=>some (lenL s)
 | .slice=>lenOf v
 | .map=>bnd (entries hp v) fun es=>some (lenL es)
def xbLen (P:Program) (ts:Array TypeId) (vs:List AV) (hp:Hp) (nx:Nat):R :=
 runR (lenKind P ts) fun k=>arg1 (fun v=>pureR (bnd (lenP k v hp) fun n=>some (.int .i64 (Int.ofNat n))) hp nx) vs
def capP (v:AV):Option Nat:=match v with | .slice _ _ _ n true=>some n | .nilSlice=>some 0 | _=>none
def xbCap (P:Program) (ts:Array TypeId) (vs:List AV) (hp:Hp) (nx:Nat):R :=
 runR (bnd (headT ts) (elemZero P)) fun _=>arg1 (fun v=>pureR (bnd (capP v) fun n=>some (.int .i64 (Int.ofNat n))) hp nx) vs
def maxP (a b:AV):Option AV:=bnd (asInt a) fun a=>bnd (asInt b) fun b=>some (.int a.1 (sel (iLe b.2 a.2) a.2 b.2))
def minP (a b:AV):Option AV:=bnd (asInt a) fun a=>bnd (asInt b) fun b=>some (.int a.1 (sel (iLe a.2 b.2) a.2 b.2))
def xbDelete (P:Program) (ts:Array TypeId) (vs:List AV) (hp:Hp) (nx:Nat):R :=
 runR (bnd (headT ts) (mapKind P)) fun z=>arg2 (fun m k=>runR (asMap m) fun b=>runR (bnd (getB hp b) ownMap) fun es=>runR (keyEq z.1 k k) fun _=>runR (delK z.1 k es) fun es =>
  .ok (.tuple []) (setB (some (.map es true)) b hp) nx) vs
def clearB (e:Nat×List AV) (hp:Hp) (nx:Nat) (v:AV):R :=
 match v with
 | .nilSlice=>.ok (.tuple []) hp nx
 | .slice b off n cap _=>sel (Nat.beq n 0) (.ok (.tuple []) hp nx) (sel (and (Nat.ble n cap) (Nat.ble n 100000)) (okR (.tuple []) nx (storeB hp b off (repN e.2 n))) .no)
 | _=>.no
def xbClear (P:Program) (ts:Array TypeId) (vs:List AV) (hp:Hp) (nx:Nat):R :=
 runR (bnd (headT ts) (elemZero P)) fun e=>arg1 (clearB e hp nx) vs
def builtinR (b:Builtin) (P:Program) (ts:Array TypeId) (vs:List AV) (hp:Hp) (nx:Nat):R :=
 match b with
 | .append=>xbAppend P ts vs hp nx
 | .copy=>xbCopy P ts vs hp nx
 | .len=>xbLen P ts vs hp nx
 | .cap=>xbCap P ts vs hp nx
 | .max=>arg2 (fun a b=>pureR (maxP a b) hp nx) vs
 | .min=>arg2 (fun a b=>pureR (minP a b) hp nx) vs
 | .delete=>xbDelete P ts vs hp nx
 | .clear=>xbClear P ts vs hp nx
 | _=>.no
def calleeOf (v:AV):Option (FuncId×List AV×List AV):=match v with | .func f a b=>some (f,a,b) | _=>none
abbrev XC:=Array Operand→Array TypeId→X
def xcBuiltin (b:Builtin):XC:=fun xs ts P tm hp nx=>runR (opnds P tm xs.toList) fun vs=>builtinR b P ts vs hp nx
inductive FK where | own | clone
def funKind (P:Program) (f:FuncId):Option FK :=
 match P.funcs[f]? with
 | some fn => sel fn.body.isSome (sel (fn.name == "runtime.NumGoroutine") none (some .own)) (sel (and (fn.name == "maps.clone") (fn.origin == "")) (some .clone) none)
 | none=>none
def cloneP (vs:List AV) (hp:Hp) (nx:Nat):Option (AV×Blk) :=
 match vs with | [.iface t (.map b)]=>bnd (bnd (getB hp b) mapB) fun es=>some (.iface t (.map nx),.map es true) | _=>none
def callR (k:FK) (f:FuncId) (vs:List AV) (hp:Hp) (nx:Nat):R:=match k with | .own=>.call f vs | .clone=>newR (cloneP vs hp nx) hp nx
def xcValue (f:Operand):XC:=fun xs _ P tm hp nx=>runR (bnd (opnd P f tm) calleeOf) fun c=>runR (opnds P tm xs.toList) fun vs=>runR (funKind P c.1) fun k=>callR k c.1 (app c.2.1 (app vs c.2.2)) hp nx
inductive MK where | own (f:FuncId) | sub (f:FuncId) (off:Nat) (s:Option Nat) | val (f:FuncId) (s:Option Nat)
def methodKind (P:Program) (t:TypeId) (name:String):Option MK :=
 bnd (P.info? t) fun i=>bnd (i.methods.find? (·.name==name)) fun m=>match m.func,m.path with
  | some (f,p),⟨[]⟩=>(match P.underlying t,p with | some (.pointer _),true=>some (.own f) | some (.pointer e),false=>bnd (aggSize P e) fun az=>some (.val f az) | _,_=>none)
  | some (f,false),⟨[s]⟩=>sel s.deref (bnd (structOf P s.struct) fun fs=>bnd fs[s.index]? fun g=>bnd (sizeOf? P g.type) fun sz=>bnd (aggSize P g.type) fun az =>
    (match P.underlying g.type with | some (.pointer _)=>none | some _=>sel (Nat.beq sz 0) none (some (.sub f g.offset az)) | none=>none)) none
  | _,_=>none
def recvOf (hp:Hp) (k:MK) (v:AV):Option (FuncId×AV) :=
 match k with
 | .own f=>bnd (asPtr v) fun p=>some (f,.ptr p.1 p.2)
 | .sub f off s=>bnd (asPtr v) fun p=>bnd (loadB hp s (p.1,p.2+off)) fun r=>some (f,r)
 | .val f s=>bnd (asPtr v) fun p=>bnd (loadB hp s p) fun r=>some (f,r)
def ifaceOf (v:AV):Option (TypeId×AV):=match v with | .iface t v=>some (t,v) | _=>none
def xcInvoke (r:Operand) (name:String):XC:=fun xs _ P tm hp nx =>
 runR (bnd (opnd P r tm) ifaceOf) fun p=>runR (bnd (methodKind P p.1 name) fun k=>recvOf hp k p.2) fun q=>runR (opnds P tm xs.toList) fun vs=>runR (funKind P q.1) fun k=>callR k q.1 (q.2 :: vs) hp nx
def calleeX (c:Callee):XC:=Callee.rec (motive:=fun _=>XC) xcValue xcInvoke xcBuiltin c
def xCall (c:Call):X:=calleeX c.callee c.args c.argTypes
def opX (o:Op):X :=
 Op.rec (motive:=fun _=>X) xMove xMove xPick xAlloc xBox xBuild xBuildSlice xUpdate xLoad xStore (fun _=>xNo) (fun _=>xNo) xNilCheck
  (fun op t x y _=>xBin op t x y) (fun op _ x=>xUn op x) xConv (fun _ _=>xNo) xIface xFunc (fun _ r=>xMakeMap r) (fun _ _=>xNo) xMakeSlice xSlice xFieldAddr xField xIndexAddr xIndex xLookup
  xUpdate (fun _ _ _=>xNo) (fun _ _ _ _=>xNo) xRange xNext (fun _=>xNo) (fun x _ t ok=>xAssert x t ok) xExtract xCall (fun _=>xNo) (fun _=>xNo) (fun _=>xNo) (fun _ _=>xNo) (fun _ _ _=>xNo) (fun _ _=>xNo) o
inductive Out where
 | norm (tm:Tr AV) (hp:Hp) (nx:Nat)
 | exit (id:Nat) (tm:Tr AV) (hp:Hp) (nx:Nat)
 | ret (tm:Tr AV) (hp:Hp) (nx:Nat)
 | value (v:AV) (hp:Hp) (nx:Nat)
 | fail (why:String)
inductive Task where
 | code (c:Code)
 | call (f:FuncId) (args:List AV)
abbrev K:=Task→Tr AV→Nat→Hp→Nat→Out
abbrev S:=K→Program→Tr AV→Nat→Hp→Nat→Out
def putD (dst:Option Tmp) (v:AV) (tm:Tr AV) (n:Nat) (hp:Hp) (nx:Nat):Out :=
 Option.rec (motive := fun _ => Out) (.norm tm hp nx) (fun d => Bool.rec (motive := fun _ => Out) (.fail "put") (.norm (setP (some v) (pos (Nat.succ d)) tm) hp nx) (Nat.blt d n)) dst
def putO (dst:Option Tmp) (tm:Tr AV) (n:Nat) (o:Out):Out :=
 match o with
 | .value v hp nx=>putD dst v tm n hp nx
 | .fail w=>.fail w
 | _ => .fail "call"
def dfOf (v : AV) (tm : Tr AV) (hp : Hp) (nx : Nat) : Out := match v with | .func g [] cs => .norm (setP (some (.tuple [.func g [] cs])) .h tm) hp nx | _ => .fail "defer"
def deferS (P:Program) (c:Call) (tm:Tr AV) (hp:Hp) (nx:Nat):Out :=
 match c with
 | ⟨.value f, ⟨[]⟩, _⟩ => Option.rec (motive := fun _ => Out) (.fail "defer") (fun v => dfOf v tm hp nx) (sel (getP .h tm).isSome none (opnd P f tm))
 | _ => .fail "defer"
def noR (P : Program) (o : Oper) (tm : Tr AV) (hp : Hp) (nx : Nat) : Out := match o.op with | .defer c => sel o.dst.isSome (.fail "defer") (deferS P c tm hp nx) | _ => .fail o.pos
def finR (P:Program) (ih:K) (o:Oper) (tm:Tr AV) (n:Nat) (hp0:Hp) (nx0:Nat) (r:R):Out :=
 R.rec (motive:=fun _=>Out) (fun v hp nx=>putD o.dst v tm n hp nx) (fun f args=>putO o.dst tm n (ih (.call f args) .leaf 0 hp0 nx0)) (noR P o tm hp0 nx0) r
def wantedB (v:AV) (want:Bool):Option Bool:=match v with | .bool b=>some (sel b want (not want)) | .tuple []=>some false | _=>none
def wanted? (ops:Array Oper) (g:Option (Nat×Bool)) (tm:Tr AV):Option Bool :=
 Option.rec (motive:=fun _=>Option Bool) (some true) (fun p=>bnd (bnd ops[p.1]? (·.dst)) fun d=>wantedB (slot tm d) p.2) g
def opS (o:Oper) (ops:Array Oper):S:=fun ih P tm n hp nx =>
 Option.rec (motive := fun _ => Out) (.fail "guard") (fun t => Bool.rec (motive := fun _ => Out) (putD o.dst (.tuple []) tm n hp nx) (finR P ih o tm n hp nx (opX o.op P tm hp nx)) t) (wanted? ops o.guard tm)
def onNorm (o:Out) (f:Tr AV→Hp→Nat→Out):Out:=Out.rec (motive:=fun _=>Out) f .exit .ret .value .fail o
def opsS (ops:Array Oper) (l:List Oper):S :=
 List.rec (motive:=fun _=>S) (fun _ _ tm _ hp nx=>.norm tm hp nx)
  (fun o _ go ih P tm n hp nx=>onNorm (opS o ops ih P tm n hp nx) fun tm hp nx=>go ih P tm n hp nx) l
inductive Cl where | pure | make | read | chain | calm
def isCalm (f:FuncId):Bool:=or (Nat.beq f 54) (Nat.beq f 60)
def clCall (c:Callee):Cl:=match c with | .builtin .len=>.read | .builtin .cap=>.pure | .builtin .max=>.pure | .builtin .min=>.pure | .value (.func f)=>sel (isCalm f) .calm .chain | _=>.chain
def clOf (o:Op):Cl :=
 match o with
 | .move _ | .assign _ | .pick .. | .build .. | .nilCheck _ | .binOp .. | .unOp .. | .convert .. | .makeInterface .. | .makeFunc .. | .slice .. | .fieldAddr .. | .field .. | .indexAddr .. | .index ..
 | .typeAssert .. | .extract ..=>.pure
 | .alloc _ | .box .. | .makeSlice .. | .buildSlice ..=>.make
 | .load .. | .lookup ..=>.read
 | .call c=>clCall c.callee
 | _=>.chain
def orAll (anc:List Nat) (l:List Edge):Nat :=
 List.rec (motive:=fun _=>Nat) 0 (fun e _ r=>sel (Region.binds .any e) (Nat.lor (Nat.lor (Nat.pow 2 e.on) ((nth anc e.on).getD 0)) r) r) l
def ancs (l:List Oper):List Nat→List Nat :=
 List.rec (motive:=fun _=>List Nat→List Nat) (fun acc=>acc) (fun o _ go acc=>go (app acc [orAll acc o.after.toList])) l
def bit (m i:Nat):Bool:=Nat.testBit m i
def apartAll (ops:Array Oper) (o:Oper) (m:Nat) (l:List Oper):Nat→Bool :=
 List.rec (motive:=fun _=>Nat→Bool) (fun _=>true) (fun p _ go i=>sel (or (bit m i) (Oper.apart ops p o)) (go (Nat.succ i)) false) l
def edgesOk (i:Nat) (l:List Edge):Bool:=List.rec (motive:=fun _=>Bool) true (fun e _ r=>sel (or (not (Region.binds .any e)) (Nat.blt e.on i)) r false) l
def drawOk (ops:Array Oper) (all:List Oper) (anc:List Nat) (l:List Oper):Nat→List Oper→Bool :=
 List.rec (motive:=fun _=>Nat→List Oper→Bool) (fun _ _=>true)
  (fun o _ go i done=>sel (and (edgesOk i o.after.toList) (apartAll ops o ((nth anc i).getD 0) done 0)) (go (Nat.succ i) (app done [o])) false) l
def eqA (x y:AV):Bool :=
 match x with
 | .bool a=>(match y with | .bool b=>sel a b (not b) | _=>false)
 | .int k a=>(match y with | .int j b=>and (kindEq k j) (iEq a b) | _=>false)
 | .str s=>(match y with | .str t=>strEq s t | _=>false)
 | .ptr b o=>(match y with | .ptr c p=>and (Nat.beq b c) (Nat.beq o p) | _=>false)
 | .nilPtr=>(match y with | .nilPtr=>true | _=>false)
 | .slice b o l c e=>(match y with | .slice b' o' l' c' e'=>and (Nat.beq b b') (and (Nat.beq o o') (and (Nat.beq l l') (and (Nat.beq c c') (sel e e' (not e'))))) | _=>false)
 | .nilSlice=>(match y with | .nilSlice=>true | _=>false)
 | .map b=>(match y with | .map c=>Nat.beq b c | _=>false)
 | .nilMap=>(match y with | .nilMap=>true | _=>false)
 | .nilFunc=>(match y with | .nilFunc=>true | _=>false)
 | .nilIface=>(match y with | .nilIface=>true | _=>false)
 | _=>false
def eqAs' (x:List AV):List AV→Bool :=
 List.rec (motive:=fun _=>List AV→Bool) (fun y=>List.rec (motive:=fun _=>Bool) true (fun _ _ _=>false) y)
  (fun a _ eq y=>List.rec (motive:=fun _=>Bool) false (fun b y _=>sel (eqA a b) (eq y) false) y) x
def eqV (x y:AV):Bool:=match x with | .agg l=>(match y with | .agg m=>eqAs' l m | _=>false) | x=>eqA x y
def lowA (m:Nat) (x:AV):Bool :=
 match x with
 | .bool _ | .int _ _ | .str _ | .nilPtr | .nilSlice | .nilMap | .nilFunc | .nilIface=>true
 | .ptr b _=>Nat.blt b m
 | .slice b _ _ _ _=>Nat.blt b m
 | .map b=>Nat.blt b m
 | _=>false
def lowAs (m:Nat) (l:List AV):Bool:=List.rec (motive:=fun _=>Bool) true (fun a _ r=>sel (lowA m a) r false) l
def lowV (m:Nat) (x:AV):Bool:=match x with | .agg l=>lowAs m l | x=>lowA m x
structure Wa where
 i:Nat
 o:Oper
 tm:Tr AV
 v:AV
 nx:Nat
structure Ds where
 tm:Tr AV
 hp:Hp
 pend:List (Nat×Nat×Blk)
 nx:Nat
 hist:List Hp
 chs:List Nat
 wa:List Wa
def readIs (P:Program) (o:Oper) (tm:Tr AV) (v:AV) (hp:Hp):Bool:=match opX o.op P tm hp 0 with | .ok u _ _=>eqV u v | _=>false
def backOk (P:Program) (o:Oper) (tm:Tr AV) (v:AV) (m:Nat) (chs:List Nat):List Hp→Bool :=
 List.rec (motive:=fun _=>List Hp→Bool) (fun _=>true) (fun c _ go hs=>sel (bit m c) true (match hs with | h :: hs=>sel (readIs P o tm v h) (go hs) false | []=>false)) chs
def waOk (P:Program) (m:Nat) (hp:Hp) (wa:List Wa):Bool :=
 List.rec (motive:=fun _=>Bool) true (fun x _ r=>sel (or (bit m x.i) (and (readIs P x.o x.tm x.v hp) (lowV x.nx x.v))) r false) wa
def inAll (m:Nat) (l:List Nat):Bool:=List.rec (motive:=fun _=>Bool) true (fun i _ r=>sel (bit m i) r false) l
def pendIdx (l:List (Nat×Nat×Blk)):List Nat:=List.rec (motive:=fun _=>List Nat) [] (fun p _ r=>p.1 :: r) l
def unpend (l:List (Nat×Nat×Blk)) (hp:Hp):Hp:=List.rec (motive:=fun _=>Hp) hp (fun p _ r=>setB (some p.2.2) p.2.1 r) l
def setT (dst:Option Tmp) (v:AV) (tm:Tr AV):Tr AV:=match dst with | some d=>setP (some v) (pos (Nat.succ d)) tm | none=>tm
def dstOk (dst:Option Tmp) (n:Nat):Bool:=match dst with | some d=>Nat.blt d n | none=>true
def dChain (P:Program) (i m:Nat) (o:Oper) (s:Ds) (v:AV) (hp:Hp) (nx:Nat):Option Ds :=
 sel (and (Nat.ble s.nx nx) (waOk P m hp s.wa)) (some { tm:=setT o.dst v s.tm,hp,pend:=[],nx,hist:=s.hp :: s.hist,chs:=i :: s.chs,wa:=s.wa }) none
def dCall (P:Program) (ih:K) (i m:Nat) (o:Oper) (s:Ds) (u:Hp) (r:R):Option Ds :=
 match r with
 | .ok v hp nx=>dChain P i m o s v hp nx
 | .call f args=>(match ih (.call f args) .leaf 0 u s.nx with | .value v hp nx=>dChain P i m o s v hp nx | _=>none)
 | .no=>none
def only (l:List Tmp) (tm:Tr AV):Tr AV:=List.rec (motive:=fun _=>Tr AV) .leaf (fun t _ r=>setP (getP (pos (Nat.succ t)) tm) (pos (Nat.succ t)) r) l
def dPure (P:Program) (o:Oper) (q:Tr AV) (s:Ds):Option Ds :=
 match opX o.op P q .leaf 0 with | .ok v _ _=>some { s with tm:=setT o.dst v s.tm } | _=>none
def dMake (P:Program) (i:Nat) (o:Oper) (q:Tr AV) (s:Ds):Option Ds :=
 match opX o.op P q .leaf s.nx with | .ok v hp _=>bnd (getB hp s.nx) fun b=>some { s with tm:=setT o.dst v s.tm,pend:=(i,s.nx,b) :: s.pend,nx:=Nat.succ s.nx } | _=>none
def dRead (P:Program) (i m:Nat) (o:Oper) (q:Tr AV) (s:Ds):Option Ds :=
 match opX o.op P q s.hp 0 with | .ok v _ _=>sel (backOk P o q v m s.chs s.hist) (some { s with tm:=setT o.dst v s.tm,wa:=⟨i,o,q,v,s.nx⟩ :: s.wa }) none | _=>none
def dChainS (P:Program) (ih:K) (i m:Nat) (o:Oper) (q:Tr AV) (s:Ds):Option Ds :=
 sel (and (inAll m s.chs) (inAll m (pendIdx s.pend))) (dCall P ih i m o s (unpend s.pend s.hp) (opX o.op P q (unpend s.pend s.hp) s.nx)) none
def dCalm (P:Program) (ih:K) (o:Oper) (q:Tr AV) (s:Ds):Option Ds :=
 match opX o.op P q .leaf s.nx with
 | .call f args=>(match ih (.call f args) .leaf 0 .leaf s.nx with | .value v _ _=>sel (and (lowAs 0 args) (lowA 0 v)) (some { s with tm:=setT o.dst v s.tm }) none | _=>none)
 | _=>none
def dDo (P:Program) (ih:K) (i m:Nat) (o:Oper) (q:Tr AV) (s:Ds):Option Ds :=
 match clOf o.op with | .pure=>dPure P o q s | .make=>dMake P i o q s | .read=>dRead P i m o q s | .chain=>dChainS P ih i m o q s | .calm=>dCalm P ih o q s
def dStep (P:Program) (ih:K) (ops:Array Oper) (n:Nat) (i m:Nat) (o:Oper) (s:Ds):Option Ds :=
 sel (dstOk o.dst n) (bnd (wanted? ops o.guard (only (Oper.looksAt ops o) s.tm)) fun t=>sel t (dDo P ih i m o (only (Oper.looksAt ops o) s.tm) s) (some { s with tm:=setT o.dst (.tuple []) s.tm })) none
def dRun (P:Program) (ih:K) (ops:Array Oper) (n:Nat) (anc:List Nat) (l:List Oper):Nat→Ds→Option Ds :=
 List.rec (motive:=fun _=>Nat→Ds→Option Ds) (fun _ s=>some s) (fun o _ go i s=>bnd (dStep P ih ops n i ((nth anc i).getD 0) o s) fun s=>go (Nat.succ i) s) l
def drawS (ops : Array Oper) : S := fun ih P tm n hp nx =>
  sel (drawOk ops ops.toList (ancs ops.toList []) ops.toList 0 [])
    (match dRun P ih ops n (ancs ops.toList []) ops.toList 0 { tm, hp, pend := [], nx, hist := [], chs := [], wa := [] } with
     | some s => .norm s.tm (unpend s.pend s.hp) s.nx
     | none => .fail "draw") (.fail "drawOk")
def cSkip:S:=fun _ _ tm _ hp nx=>.norm tm hp nx
def cRegion (ops:Array Oper) (draw:Bool):S:=Bool.rec (motive:=fun _=>S) (opsS ops ops.toList) (drawS ops) draw
def cSeq (a b:Code):S:=fun ih _ tm n hp nx=>onNorm (ih (.code a) tm n hp nx) fun tm hp nx=>ih (.code b) tm n hp nx
def cCond (c:Operand) (a b:Code):S:=fun ih P tm n hp nx =>
 Option.rec (motive := fun _ => Out) (.fail "cond") (fun t => ih (.code (sel t a b)) tm n hp nx) (bnd (opnd P c tm) asBool)
def offBlock (id:Nat) (o:Out):Out:=Out.rec (motive:=fun _=>Out) .norm (fun j tm hp nx=>sel (Nat.beq j id) (.norm tm hp nx) (.exit j tm hp nx)) .ret .value .fail o
def cBlock (id:Nat) (c:Code):S:=fun ih _ tm n hp nx=>offBlock id (ih (.code c) tm n hp nx)
def cLoop (c:Code):S:=fun ih _ tm n hp nx=>onNorm (ih (.code c) tm n hp nx) fun tm hp nx=>ih (.code (.loop c)) tm n hp nx
def cExit (id:Nat):S:=fun _ _ tm _ hp nx=>.exit id tm hp nx
def cRet:S:=fun _ _ tm _ hp nx=>.ret tm hp nx
def cNo (why:String):S:=fun _ _ _ _ _ _=>.fail why
def noDf (ops:Array Oper):Bool:=List.rec (motive:=fun _=>Bool) true (fun o _ r=>match o.op with | .defer _=>false | _=>r) ops.toList
def okC (c:Code):Bool :=
 Code.rec (motive:=fun _=>Bool) true (fun _ ops _=>noDf ops) (fun _ _ a b=>sel a b false) (fun _ _ _ a b=>sel a b false) (fun _ _ a=>a) (fun _ a=>a) (fun _ _ _ _ _ _=>false) (fun _=>true) (fun _ _=>false) (fun _=>true) (fun _=>false) true (fun _=>false) c
def elemB (hp:Hp) (sz k:Nat) (v:AV):Option AV:=match v with | .slice b off n cap _=>sel (and (Nat.blt k n) (Nat.ble n cap)) (loadB hp (some sz) (b,off+k * sz)) none | _=>none
def roundS (ih:K) (asg body:Code) (p0 p1:Tmp) (tm:Tr AV) (n k:Nat) (v:AV) (hp:Hp) (nx:Nat):Out :=
 onNorm (ih (.code asg) (setP (some v) (pos (Nat.succ p1)) (setP (some (.int .i64 (Int.ofNat k))) (pos (Nat.succ p0)) (setP none .h tm))) n hp nx) fun tm hp nx=>ih (.code body) tm n hp nx
def roundO (o : Out) (f : Hp → Nat → Out) : Out := match o with | .norm _ hp nx => f hp nx | .fail w => .fail w | _ => .fail "round"
def backS (ih:K) (asg body:Code) (p0 p1:Tmp) (c:Nat×Nat) (sz:Nat) (tm tm1:Tr AV) (n:Nat) (k:Nat):Hp→Nat→Out :=
 Nat.rec (motive:=fun _=>Hp→Nat→Out) (fun hp nx=>.norm tm1 hp nx)
  (fun k go hp nx => Option.rec (motive := fun _ => Out) (.fail "element") (fun v => roundO (roundS ih asg body p0 p1 tm n k v hp nx) go) (bnd (loadB hp none c) (elemB hp sz k))) k
def marks (d:Option AV) (D:Nat):Option AV:=match d with | none=>some (.agg [.ptr D 0]) | some (.agg l)=>some (.agg (.ptr D 0 :: l)) | _=>none
def sizeOut (o:Out):Option Nat:=match o with | .value (.int _ (.ofNat sz)) _ _=>some sz | _=>none
def iterOf (v:AV):Option (FuncId×Nat×Nat):=match v with | .func f [] [.ptr c off]=>some (f,c,off) | _=>none
def parms (ps:Array Tmp):Option (Tmp×Tmp):=match ps with | ⟨[p0,p1]⟩=>some (p0,p1) | _=>none
def lenS (v:AV):Option Nat:=match v with | .slice _ _ n _ _=>some n | _=>none
def rangeS (ih:K) (asg body:Code) (tm:Tr AV) (n:Nat) (hp:Hp) (nx:Nat) (f:FuncId×Nat×Nat) (p:Tmp×Tmp) (sz len:Nat) (m:AV):Out :=
 sel (and (okC asg) (and (okC body) (and (Nat.blt p.1 n) (and (Nat.blt p.2 n) (Nat.ble len 1000000))))) (backS ih asg body p.1 p.2 f.2 sz tm (setP (some m) .h tm) n len (setB (some .dfr) nx hp) (Nat.succ nx)) (.fail "range")
def cRange (g:Operand) (ps:Array Tmp) (asg body:Code):S:=fun ih P tm n hp nx =>
 Option.rec (motive := fun _ => Out) (.fail "rangeFunc") (fun f => Option.rec (motive := fun _ => Out) (.fail "params") (fun p => Option.rec (motive := fun _ => Out) (.fail "iterator")
  (fun sz => Option.rec (motive := fun _ => Out) (.fail "over") (fun len => Option.rec (motive := fun _ => Out) (.fail "marks") (fun m => rangeS ih asg body tm n hp nx f p sz len m) (marks (getP .h tm) nx)) (bnd (loadB hp none f.2) lenS))
  (sizeOut (ih (.call f.1 []) .leaf 7 hp nx))) (parms ps)) (bnd (opnd P g tm) iterOf)
def codeS (c:Code):S :=
 Code.rec (motive:=fun _=>S) cSkip (fun _ ops d=>cRegion ops d) (fun a b _ _=>cSeq a b) (fun c a b _ _=>cCond c a b) (fun id c _=>cBlock id c) (fun c _=>cLoop c)
  (fun g ps asg body _ _ => cRange g ps asg body) cExit (fun _ _ => cNo "scope") (fun _ => cSkip) (fun _ => cNo "goto") cRet (fun _ => cNo "refuse") c
def startTm (args:List AV):Nat→Tr AV→Tr AV :=
 List.rec (motive:=fun _=>Nat→Tr AV→Tr AV) (fun _ t=>t) (fun v _ go i t=>go (Nat.succ i) (setP (some v) (pos (Nat.succ i)) t)) args
def resF (P:Program) (tm:Tr AV) (hp:Hp) (l:List ResultVar):Option (List AV) :=
 List.rec (motive:=fun _=>Option (List AV)) (some []) (fun x _ r =>
  match x with
  | .tmp t=>bnd r fun l=>some (slot tm t :: l)
  | .cell a t=>bnd (asPtr (slot tm a)) fun p=>bnd (aggSize P t) fun s=>bnd (loadB hp s p) fun v=>bnd r fun l=>some (v :: l)) l
def one1 (l:List AV):AV:=match l with | [v]=>v | l=>.tuple l
def leaveE (o : Out) (k : Hp → Nat → Out) : Out := match o with | .value _ hp nx => k hp nx | .fail w => .fail w | _ => .fail "deferred"
def leaveD (ih : K) (g : FuncId) (cs : List AV) (hp : Hp) (nx : Nat) (k : Hp → Nat → Out) (o : Option FK) : Out := match o with | some .own => leaveE (ih (.call g cs) .leaf 1 hp nx) k | _ => .fail "deferred"
def isDfr (k:Option Blk):Bool:=match k with | some .dfr=>true | _=>false
def leaveM (l:List AV) (k:Hp→Out):Hp→Out :=
 List.rec (motive := fun _ => Hp → Out) k (fun v _ go hp => match v with | .ptr D _ => sel (isDfr (getB hp D)) (go (setB none D hp)) (.fail "marks") | _ => .fail "marks") l
def leaveV (P:Program) (ih:K) (v:AV) (hp:Hp) (nx:Nat) (k:Hp→Nat→Out):Out :=
 match v with | .tuple [.func g [] cs] => leaveD ih g cs hp nx k (funKind P g) | .agg l => leaveM l (fun hp => k hp nx) hp | _ => .fail "defers"
def leaveS (P:Program) (ih:K) (tm:Tr AV) (hp:Hp) (nx:Nat) (k:Hp→Nat→Out):Out :=
 Option.rec (motive:=fun _=>Out) (k hp nx) (fun v=>leaveV P ih v hp nx k) (getP .h tm)
def resO (ih:K) (P:Program) (fn:Func) (o:Out):Out :=
 match o with
 | .norm tm hp nx => leaveS P ih tm hp nx fun hp nx => Option.rec (motive := fun _ => Out) (.fail "results") (fun l => .value (one1 l) hp nx) (resF P tm hp fn.results.toList)
 | .ret tm hp nx => leaveS P ih tm hp nx fun hp nx => Option.rec (motive := fun _ => Out) (.fail "results") (fun l => .value (one1 l) hp nx) (resF P tm hp fn.results.toList)
 | .fail w=>.fail w
 | _ => .fail "left"
abbrev Hook:=Nat→FuncId→List AV→Hp→Nat→Option (AV×Hp×Nat)
def resO1 (P:Program) (fn:Func) (o:Out):Out :=
 match o with
 | .norm tm hp nx => sel (getP .h tm).isSome (.fail "defers") (Option.rec (motive := fun _ => Out) (.fail "results") (fun l => .value (one1 l) hp nx) (resF P tm hp fn.results.toList))
 | .ret tm hp nx => sel (getP .h tm).isSome (.fail "defers") (Option.rec (motive := fun _ => Out) (.fail "results") (fun l => .value (one1 l) hp nx) (resF P tm hp fn.results.toList))
 | .fail w=>.fail w
 | _ => .fail "left"
def callS (hk:Hook) (f:FuncId) (args:List AV):S:=fun ih P _ mode hp nx =>
 Option.rec (motive:=fun _=>Out)
  (Option.rec (motive := fun _ => Out) (.fail "func") (fun fn =>
   Option.rec (motive:=fun _=>Out) (.fail fn.name) (fun c =>
    sel (Nat.ble (lenL args) fn.ntmps) (sel (Nat.beq mode 0) (resO ih P fn (ih (.code c) (startTm args 0 .leaf) fn.ntmps hp nx)) (sel (Nat.beq mode 1) (resO1 P fn (ih (.code c) (startTm args 0 .leaf) fn.ntmps hp nx)) (.fail "mode"))) (.fail "args")) fn.body) P.funcs[f]?)
  (fun r=>.value r.1 r.2.1 r.2.2) (hk mode f args hp nx)
def taskS (hk:Hook) (t:Task):S:=Task.rec (motive:=fun _=>S) codeS (callS hk) t
def ev (hk:Hook) (P:Program) (n:Nat):K :=
 Nat.rec (motive := fun _ => K) (fun _ _ _ _ _ => .fail "fuel") (fun _ ih t tm n hp nx => taskS hk t ih P tm n hp nx) n
end
end Go.Proofs.YtdmelebgdaiinaaGreatDoor.Ev
