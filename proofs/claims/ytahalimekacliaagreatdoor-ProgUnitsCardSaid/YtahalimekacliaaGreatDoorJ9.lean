/- The reference: nodes in order: the walk. Rows of numbers and truths as lines of a text: the plain mathematics. The reference: expressions in the places of streams: the walk of Put. -/
import Derived.Test.YtahalimekacliaaGreatDoorJ2
import Derived.Test.YtahalimekacliaaGreatDoorJ8
set_option linter.unusedVariables false
set_option linter.unusedSimpArgs false
namespace Go.Proofs.YtahalimekacliaaGreatDoor
open Go.RowKit Go.Shelf Tx
theorem Gr.other {w w1 w2 : World} {v v1 u u' : Value} (h : Gr w v w1 v1) (k : Gr w1 u w2 u') (hu : ∀ g, u.ownBlock = some g → w.heap.size ≤ g) : Gr w v w2 v1 :=
  ⟨k.os.trans h.os, k.tape.trans h.tape, k.output.trans h.output, Nat.le_trans h.size k.size,
   fun i hi hn => (k.block i (Nat.lt_of_lt_of_le hi h.size) (fun e => by have := hu i e; omega)).trans (h.block i hi hn), h.own⟩
end Go.Proofs.YtahalimekacliaaGreatDoor
namespace Go.Proofs.YtahalimekacliaaGreatDoor.Fx
abbrev Bs := List UInt8
def wordOf (s : Bs) : Bs := s.takeWhile (· != 32)
def behind (s : Bs) : Bs := s.dropWhile (· != 32)
def skip (s : Bs) : Bs := s.dropWhile (· == 32)
def wordsF : Nat → Bs → List Bs
  | 0, _ => []
  | f + 1, s => if (skip s).isEmpty then [] else wordOf (skip s) :: wordsF f (behind (skip s))
def words (s : Bs) : List Bs := wordsF (s.length + 1) s
def fits (n : Int) : Bool := decide (-2147483648 ≤ n) && decide (n ≤ 2147483647)
def isD (c : UInt8) : Bool := 48 ≤ c && c ≤ 57
def val (l : Bs) : Nat := l.foldl (fun n c => 10 * n + (c.toNat - 48)) 0
def size (d : Bs) : Option Nat := if d.isEmpty || decide (10 < d.length) || (d.headD 0 == 48 && decide (1 < d.length)) || !d.all isD then none else some (val d)
def tru : Bs := [116, 114, 117, 101]
def fal : Bs := [102, 97, 108, 115, 101]
def dg (n : Nat) : UInt8 := UInt8.ofNat (48 + n)
def decF : Nat → Nat → Bs
  | 0, _ => []
  | f + 1, n => if n < 10 then [dg n] else decF f (n / 10) ++ [dg (n % 10)]
def dec (n : Nat) : Bs := decF (n + 1) n
def itoa (n : Int) : Bs := if n < 0 then 45 :: dec n.natAbs else dec n.toNat
def may (t n : Int) : Bool := (decide (t = 2) && fits n) || (decide (t = 1) && (decide (n = 0) || decide (n = 1)))
def text (t n : Int) : Bs := if t = 1 then (if n = 1 then tru else fal) else itoa n
end Go.Proofs.YtahalimekacliaaGreatDoor.Fx
namespace Go.Proofs.YtahalimekacliaaGreatDoor
open Go.RowKit Go.Shelf Tx
theorem RowL.gr {α : Type} {f : α → Value} {T base g n : Nat} {w w' : World} {v v' : Value} {L : List α} (h : RowL f T base w g n L) (hg : Gr w v w' v') (hn : v.ownBlock ≠ some g) : RowL f T base w' g n L := by
  refine World.ownsRow.kept h (row := v.ownBlock) ⟨hg.os, hg.tape, hg.output, hg.size, fun k hk hne => hg.block k hk (fun e => hne e.symm)⟩ ?_
  exact Or.inr (fun e => hn e.symm)
end Go.Proofs.YtahalimekacliaaGreatDoor
