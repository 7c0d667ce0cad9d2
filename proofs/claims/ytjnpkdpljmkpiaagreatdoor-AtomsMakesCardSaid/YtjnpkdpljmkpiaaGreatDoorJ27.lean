/- Expressions over atoms, by whether each of these is true: the plain mathematics. DERIVED: THE SHELF's CONTRACTS AT THIS DUMP, IN PLAIN WORDS (tools/lay-plain.mjs out of 'TryzShelf.lean', which tools/lay-shelf.mjs wrote): THE SAME DECLARATIONS UNDER THE SAME NAMES: 'import', 'namespace', 'open', 'def', 'theorem' AND NOTHING ELSE: no command of the shelf's: FOR A HAND-IN. Each laying: the table of numbers ('.._ren') and one theorem, a field a fact of the dump's own or the kernel's comparison; each contract: ONE APPLICATION. The variables that are laid; a number's text: the walk. The splitter in memory; what turns while expressions are cut. The program's cut: an atom: the walk. The reference's numbers' texts (the same walk as in the seat of Frame). The reference's splitter: its memory; which atom is the same. -/
import Derived.Lib.AtoiAllCases
import Derived.Lib.AtoiTie
import Derived.Lib.ItoaNum
import Derived.Shelf.Small.Wraps
import Derived.Shelf.Strconv.Atoi
import Derived.Shelf.Strconv.Itoa0
import Derived.Shelf.Strconv.Itoa1
import Derived.Shelf.LaysM
import Derived.Shelf.Strconv.Itoa2
import Derived.Shelf.Strconv.Itoa3
import Derived.Shelf.Strconv.AtoiErrFast
import Derived.Shelf.Strconv.ParseIntEmpty
import Derived.Shelf.Strconv.AtoiFail
import Derived.Shelf.Strconv.Clone
import Derived.Shelf.Strconv.SyntaxError
import Derived.Shelf.LaysC
import Derived.Shelf.Strconv.ToError
import Derived.Shelf.Strconv.AtoiErr
import Derived.Shelf.Strconv.ErrVar
import Derived.Shelf.Strconv.Lower
import Derived.Shelf.Strconv.ParseUint10
import Derived.Shelf.Strconv.ParseUint10Empty
import Derived.Shelf.Strconv.ParseUint10Any
import Derived.Shelf.Strconv.ParseInt10
import Derived.Shelf.Strconv.AtoiLong
import Derived.Shelf.Strconv.AtoiInnerAll
import Derived.Shelf.Strconv.RangeError
import Derived.Shelf.Strconv.ToErrorRange
import Derived.Shelf.Strconv.AtoiAll
import Derived.Shelf.Strconv.ErrVarAll
import Derived.Shelf.Strconv.ParseUintEmpty
import Derived.Shelf.Strconv.ParseUint10b64
import Derived.Shelf.Strconv.ParseUint10b32
import Derived.Shelf.Strconv.ParseUint10b16
import Derived.Shelf.Strconv.ParseUint10b8
import Derived.Shelf.Strconv.ParseUint10At
import Derived.Shelf.Strconv.ParseInt10At64
import Derived.Shelf.Strconv.ParseInt10At32
import Derived.Shelf.Strconv.ParseInt10At16
import Derived.Shelf.Strconv.ParseInt10At8
import Derived.Shelf.Strconv.ParseInt10All
import Derived.Shelf.Strings.Prefix
import Derived.Test.YtjnpkdpljmkpiaaGreatDoorProg
import Derived.Deep.RegionLaw
import Derived.Deep.AppendLies
import Derived.Laws.IdiomStrings
import Derived.Test.YtjnpkdpljmkpiaaGreatDoorJ14
import Derived.Test.YtjnpkdpljmkpiaaGreatDoorJ15
import Derived.Test.YtjnpkdpljmkpiaaGreatDoorJ26
namespace Go.Proofs.YtjnpkdpljmkpiaaGreatDoor
namespace Ux
open Tx
def numOf (s : ByteArray) (most : Nat) : Option Nat := (List.range most).find? fun k => decide (atomName k = s)
theorem numOf_some {s : ByteArray} {most k : Nat} : numOf s most = some k ↔ k < most ∧ atomName k = s := by
  unfold numOf
  rw [List.find?_range_eq_some]
  constructor
  · rintro ⟨h1, h2, _⟩
    exact ⟨by simpa using h2, by simpa using h1⟩
  · rintro ⟨h1, h2⟩
    refine ⟨by simpa using h2, by simpa using h1, fun j hj => ?_⟩
    rw [Bool.not_eq_true', decide_eq_false_iff_not]
    intro e; have := atomName_inj (e.trans h2.symm); omega
def numP (s : ByteArray) : Option Int := match s.data.toList with
  | 63 :: d => match Lib.atoiAll d with
    | .ok v => if Lib.itoa v = d then some v else none
    | _ => none
  | _ => none
theorem digits_dec' : ∀ n : Nat, Lib.decDigits n = Fx.dec n := by
  intro n
  induction n using Nat.strongRecOn with
  | _ n ih =>
    rw [Lib.decDigits]
    by_cases h : n < 10
    · rw [dif_pos h, Fx.dec_small h]; rfl
    · rw [dif_neg h, Fx.dec_big h, ih (n / 10) (by omega)]; rfl
theorem lib_itoa' (n : Int) : Lib.itoa n = Fx.itoa n := by unfold Lib.itoa Fx.itoa; simp only [digits_dec']
theorem decFrom_all' : ∀ (l : List UInt8) (a : Nat), l.all Fx.isD = true → Lib.decFrom a l = some (l.foldl (fun n c => 10 * n + (c.toNat - 48)) a)
  | [], a, _ => rfl
  | c :: r, a, h => by
    simp only [List.all_cons, Bool.and_eq_true] at h
    have hc := Fx.isD_nat h.1
    simp only [Lib.decFrom, Lib.digitVal, if_pos hc, List.foldl_cons]
    rw [decFrom_all' r _ h.2, Nat.mul_comm]
theorem atoi_dec {m : Nat} (hm : m < 10000000000) : Lib.atoiAll (Fx.dec m) = .ok (m : Int) := by
  obtain ⟨h1, h2, h3, h4, h5⟩ := Fx.dec_is m
  have k1 := h5 9 hm
  have k2 : Lib.decNat (Fx.dec m) = some m := by
    unfold Lib.decNat
    rw [if_neg (by simpa using h3), decFrom_all' _ _ h1]
    exact congrArg some h2
  rw [Lib.atoiAll_short _ (by omega)]
  revert k2 h1 h3
  generalize Fx.dec m = l
  intro hd hne k2
  cases l with
  | nil => exact absurd rfl hne
  | cons c r =>
    simp only [List.all_cons, Bool.and_eq_true] at hd
    have hc := Fx.isD_nat hd.1
    have h45 : (c == 45) = false := by
      rw [beq_eq_false_iff_ne]; rintro rfl; exact absurd hc.1 (by decide)
    have h43 : (c == 43) = false := by
      rw [beq_eq_false_iff_ne]; rintro rfl; exact absurd hc.1 (by decide)
    simp only [Lib.atoi, h45, h43, Bool.false_eq_true, if_false, k2, Option.map_some, Lib.NumEnd.ofOption]
theorem itoa_nat (k : Nat) : Lib.itoa (k : Int) = Fx.dec k := by
  rw [lib_itoa']; unfold Fx.itoa; rw [if_neg (by omega)]; simp
theorem numP_name {k : Nat} (hk : k < 10000000000) : numP (atomName k) = some (k : Int) := by
  unfold numP
  have h : (atomName k).data.toList = 63 :: Fx.dec k := by simp [atomName]
  rw [h]
  simp only [atoi_dec hk]
  rw [if_pos (itoa_nat k)]
theorem numP_some {s : ByteArray} {v : Int} (h : numP s = some v) : s.data.toList = 63 :: Lib.itoa v ∧ -9223372036854775808 ≤ v ∧ v ≤ 9223372036854775807 := by
  unfold numP at h
  split at h
  · rename_i d hd
    split at h
    · rename_i u hu
      split at h
      · rename_i he
        cases h
        exact ⟨by rw [hd, he], Lib.atoiAll_bounds hu⟩
      · cases h
    · cases h
  · cases h
theorem numP_at {s : ByteArray} {k : Nat} (h : numP s = some (k : Int)) : s = atomName k := by
  obtain ⟨h1, _⟩ := numP_some h
  rw [itoa_nat] at h1
  obtain ⟨⟨l⟩⟩ := s
  simp only at h1
  unfold atomName
  rw [← h1]
theorem num_both {s : ByteArray} {most : Nat} (hm : most ≤ 1000000000) (k : Nat) : numOf s most = some k ↔ numP s = some (k : Int) ∧ k < most := by
  rw [numOf_some]
  constructor
  · rintro ⟨h1, rfl⟩
    exact ⟨numP_name (by omega), h1⟩
  · rintro ⟨h1, h2⟩
    exact ⟨h2, (numP_at h1).symm⟩
def nodeA (most : Nat) (x : Nd) : Bool := isLogic x.op || (x.op == 3 && (numOf x.s most).isSome)
def mayA (e : List Nd) (most : Nat) : Bool := mayB e && e.all (nodeA most)
def valN (l : List Bool) (vs : List Bool) (x : Nd) : Bool :=
  if x.op = 3 then l.getD ((numOf x.s l.length).getD 0) false
  else if x.op = 2 then x.n == 1
  else if x.op = 4 then !vs.getD x.a.toNat false
  else if x.op = 6 then vs.getD x.a.toNat false && vs.getD x.b.toNat false
  else if x.op = 7 then vs.getD x.a.toNat false || vs.getD x.b.toNat false
  else if x.op = 8 then vs.getD x.a.toNat false != vs.getD x.b.toNat false
  else if x.op = 9 then !vs.getD x.a.toNat false || vs.getD x.b.toNat false
  else (vs.getD x.a.toNat false && vs.getD x.b.toNat false) || (!vs.getD x.a.toNat false && vs.getD x.c.toNat false)
def vals (l : List Bool) (e : List Nd) : List Bool := e.foldl (fun vs x => vs ++ [valN l vs x]) []
def valL (l : List Bool) (e : List Nd) : Bool := (vals l e).getLastD false
def valA (e : List Nd) (l : List Bool) : Bool × Int := if mayA e l.length then (valL l e, 0) else (false, 1)
theorem kids_logic {x : Nd} (h : isLogic x.op = true) : (x.op = 2 ∧ kids x = []) ∨ (x.op = 4 ∧ kids x = [x.a]) ∨ ((x.op = 6 ∨ x.op = 7 ∨ x.op = 8 ∨ x.op = 9) ∧ kids x = [x.a, x.b]) ∨ (x.op = 26 ∧ kids x = [x.a, x.b, x.c]) := by
  have h2 : x.op = 2 ∨ x.op = 4 ∨ (6 ≤ x.op ∧ x.op ≤ 9) ∨ x.op = 26 := by
    unfold isLogic at h; simp at h; omega
  unfold kids
  rcases h2 with h | h | h | h
  · left; simp [h]
  · right; left; simp [h]
  · right; right; left
    refine ⟨by omega, ?_⟩
    rw [if_neg (by omega), if_neg (by omega), if_neg (by omega), if_pos (by omega)]
  · right; right; right; simp [h]
end Ux
end Go.Proofs.YtjnpkdpljmkpiaaGreatDoor
namespace Go.Proofs
open Go.Shelf
def Tryz.lays103_ren : Go.Shelf.Ren := ⟨fun | 103 => 97 | 210 => 112 | 206 => 124 | n => n, fun | 9 => 9 | 4 => 4 | 24 => 151 | 3 => 3 | n => n, fun | n => n⟩
theorem Tryz.lays103 : Go.Proofs.Lays.n103 Tryz.prog Tryz.lays103_ren := {
  mixed := by kernel_rfl
  f103 := Tryz.func97.trans (congrArg some (by kernel_rfl))
  f206 := Tryz.func124.trans (congrArg some (by kernel_rfl))
  f210 := Tryz.func112.trans (congrArg some (by kernel_rfl))
  t3 := Tryz.underlying3
  a3 := Tryz.isAgg3
  z3 := Tryz.sizeOf3
  v3 := Tryz.zeroValue3
  t4 := Tryz.underlying4
  a4 := Tryz.isAgg4
  z4 := Tryz.sizeOf4
  v4 := Tryz.zeroValue4
  t9 := Tryz.underlying9
  a9 := Tryz.isAgg9
  z9 := Tryz.sizeOf9
  v9 := Tryz.zeroValue9
  t24 := Tryz.underlying151
  a24 := Tryz.isAgg151
  z24 := Tryz.sizeOf151
  v24 := Tryz.zeroValue151 }
open Go.RowKit in
theorem Tryz.strings_CutPrefix (s p : ByteArray) (w : World) :
    Calls Tryz.prog 97 #[.string s, .string p] w fun e w' => e = .returned (.tuple #[.string ⟨(Lib.trimPrefix s.data.toList p.data.toList).toArray⟩, .bool (Lib.hasPrefix s.data.toList p.data.toList)]) ∧ w' = w := Any.strings_CutPrefix Tryz.lays103 s p w
def Tryz.laysM171_ren : Go.Shelf.Ren := ⟨fun | 171 => 92 | 243 => 110 | 246 => 123 | 283 => 135 | 284 => 136 | 285 => 137 | 286 => 138 | 129 => 145 | 317 => 144 | 318 => 146 | 319 => 147 | 320 => 148 | 337 => 152 | 338 => 153 | n => n, fun | 3 => 3 | 9 => 9 | 2 => 2 | 4 => 4 | 171 => 189 | 0 => 0 | 53 => 190 | 37 => 101 | 5 => 5 | 173 => 193 | 212 => 200 | 51 => 201 | 20 => 20 | 213 => 202 | 46 => 49 | 232 => 210 | 233 => 211 | n => n, fun | 17 => 2 | 18 => 3 | 19 => 4 | n => n⟩
theorem Tryz.laysM171 : Go.Proofs.LaysM.n171 Tryz.prog Tryz.laysM171_ren := {
  mixed := by kernel_rfl
  f129 := Tryz.func145.trans (congrArg some (by kernel_rfl))
  f171 := Tryz.func92.trans (congrArg some (by kernel_rfl))
  f243 := Tryz.func110.trans (congrArg some (by kernel_rfl))
  f246 := Tryz.func123.trans (congrArg some (by kernel_rfl))
  f283 := Tryz.func135.trans (congrArg some (by kernel_rfl))
  f284 := Tryz.func136.trans (congrArg some (by kernel_rfl))
  f285 := Tryz.func137.trans (congrArg some (by kernel_rfl))
  f286 := Tryz.func138.trans (congrArg some (by kernel_rfl))
  f317 := Tryz.func144.trans (congrArg some (by kernel_rfl))
  f318 := Tryz.func146.trans (congrArg some (by kernel_rfl))
  f319 := Tryz.func147.trans (congrArg some (by kernel_rfl))
  f320 := Tryz.func148.trans (congrArg some (by kernel_rfl))
  f337 := Tryz.func152.trans (congrArg some (by kernel_rfl))
  f338 := Tryz.func153.trans (congrArg some (by kernel_rfl))
  t0 := Tryz.underlying0
  a0 := Tryz.isAgg0
  z0 := Tryz.sizeOf0
  v0 := Tryz.zeroValue0
  t2 := Tryz.underlying2
  a2 := Tryz.isAgg2
  z2 := Tryz.sizeOf2
  v2 := Tryz.zeroValue2
  t3 := Tryz.underlying3
  a3 := Tryz.isAgg3
  z3 := Tryz.sizeOf3
  v3 := Tryz.zeroValue3
  t4 := Tryz.underlying4
  a4 := Tryz.isAgg4
  z4 := Tryz.sizeOf4
  v4 := Tryz.zeroValue4
  t5 := Tryz.underlying5
  a5 := Tryz.isAgg5
  z5 := Tryz.sizeOf5
  v5 := Tryz.zeroValue5
  t9 := Tryz.underlying9
  a9 := Tryz.isAgg9
  z9 := Tryz.sizeOf9
  v9 := Tryz.zeroValue9
  t20 := Tryz.underlying20
  a20 := Tryz.isAgg20
  z20 := Tryz.sizeOf20
  v20 := Tryz.zeroValue20
  t37 := Tryz.underlying101
  a37 := Tryz.isAgg101
  z37 := Tryz.sizeOf101
  v37 := Tryz.zeroValue101
  t46 := Tryz.underlying49
  a46 := Tryz.isAgg49
  z46 := Tryz.sizeOf49
  v46 := Tryz.zeroValue49
  t51 := Tryz.underlying201
  a51 := Tryz.isAgg201
  z51 := Tryz.sizeOf201
  v51 := Tryz.zeroValue201
  t53 := Tryz.underlying190
  a53 := Tryz.isAgg190
  z53 := Tryz.sizeOf190
  v53 := Tryz.zeroValue190
  t171 := Tryz.underlying189
  a171 := Tryz.isAgg189
  z171 := Tryz.sizeOf189
  v171 := Tryz.zeroValue189
  t173 := Tryz.underlying193
  a173 := Tryz.isAgg193
  z173 := Tryz.sizeOf193
  v173 := Tryz.zeroValue193
  t212 := Tryz.underlying200
  a212 := Tryz.isAgg200
  z212 := Tryz.sizeOf200
  v212 := Tryz.zeroValue200
  t213 := Tryz.underlying202
  a213 := Tryz.isAgg202
  z213 := Tryz.sizeOf202
  t232 := Tryz.underlying210
  a232 := Tryz.isAgg210
  z232 := Tryz.sizeOf210
  v232 := Tryz.zeroValue210
  t233 := Tryz.underlying211
  a233 := Tryz.isAgg211
  z233 := Tryz.sizeOf211
  v233 := Tryz.zeroValue211
  g17 := by kernel_rfl
  g18 := by kernel_rfl
  g19 := by kernel_rfl
  i0 := by kernel_rfl
  i2 := by kernel_rfl
  i3 := by kernel_rfl
  i4 := by kernel_rfl
  i5 := by kernel_rfl
  i9 := by kernel_rfl
  i20 := by kernel_rfl
  i37 := by kernel_rfl
  i46 := by kernel_rfl
  i51 := by kernel_rfl
  i53 := by kernel_rfl
  i171 := by kernel_rfl
  i173 := by kernel_rfl
  i212 := by kernel_rfl
  i232 := by kernel_rfl
  i233 := by kernel_rfl
  m17 := by kernel_rfl
  m18 := by kernel_rfl
  m19 := by kernel_rfl }
open Go.RowKit Go.Sort Go.Lib in
theorem Tryz.strconv_Itoa (n : Int) (h0 : -9223372036854775808 ≤ n) (h1 : n ≤ 9223372036854775807) (w : World) (htab : Lib.TabIs Tryz.prog w "internal/strconv.uint64pow10" .u64 Lib.pow10Tab) :
    Calls Tryz.prog 92 #[.int .i64 n] w fun e w' => e = .returned (.string ⟨(Lib.itoa n).toArray⟩) ∧ ∃ k os, w' = grow (w.drewN k) os := Any.strconv_Itoa Tryz.laysM171 n h0 h1 w htab
def Tryz.laysC172_ren : Go.Shelf.Ren := ⟨fun | 172 => 98 | 244 => 113 | 245 => 114 | 247 => 125 | 279 => 126 | 280 => 127 | 281 => 128 | 282 => 129 | 287 => 139 | 316 => 140 | 171 => 92 | 205 => 141 | 321 => 149 | 322 => 150 | 243 => 110 | 246 => 123 | 283 => 135 | 284 => 136 | 285 => 137 | 286 => 138 | 129 => 145 | 317 => 144 | 318 => 146 | 319 => 147 | 320 => 148 | 337 => 152 | 338 => 153 | n => n, fun | 9 => 9 | 3 => 3 | 75 => 154 | 76 => 155 | 4 => 4 | 5 => 5 | 167 => 182 | 37 => 101 | 0 => 0 | 85 => 183 | 2 => 2 | 168 => 185 | 53 => 190 | 175 => 195 | 46 => 49 | 210 => 198 | 127 => 205 | 145 => 208 | 143 => 206 | 21 => 21 | 171 => 189 | 173 => 193 | 212 => 200 | 51 => 201 | 20 => 20 | 213 => 202 | 232 => 210 | 233 => 211 | 80 => 217 | n => n, fun | 15 => 0 | 16 => 1 | 17 => 2 | 18 => 3 | 19 => 4 | n => n⟩
theorem Tryz.laysC172 : Go.Proofs.LaysC.n172 Tryz.prog Tryz.laysC172_ren := {
  mixed := by kernel_rfl
  f129 := Tryz.func145.trans (congrArg some (by kernel_rfl))
  f171 := Tryz.func92.trans (congrArg some (by kernel_rfl))
  f172 := Tryz.func98.trans (congrArg some (by kernel_rfl))
  f205 := Tryz.func141.trans (congrArg some (by kernel_rfl))
  f243 := Tryz.func110.trans (congrArg some (by kernel_rfl))
  f244 := Tryz.func113.trans (congrArg some (by kernel_rfl))
  f245 := Tryz.func114.trans (congrArg some (by kernel_rfl))
  f246 := Tryz.func123.trans (congrArg some (by kernel_rfl))
  f247 := Tryz.func125.trans (congrArg some (by kernel_rfl))
  f279 := Tryz.func126.trans (congrArg some (by kernel_rfl))
  f280 := Tryz.func127.trans (congrArg some (by kernel_rfl))
  f281 := Tryz.func128.trans (congrArg some (by kernel_rfl))
  f282 := Tryz.func129.trans (congrArg some (by kernel_rfl))
  f283 := Tryz.func135.trans (congrArg some (by kernel_rfl))
  f284 := Tryz.func136.trans (congrArg some (by kernel_rfl))
  f285 := Tryz.func137.trans (congrArg some (by kernel_rfl))
  f286 := Tryz.func138.trans (congrArg some (by kernel_rfl))
  f287 := Tryz.func139.trans (congrArg some (by kernel_rfl))
  f316 := Tryz.func140.trans (congrArg some (by kernel_rfl))
  f317 := Tryz.func144.trans (congrArg some (by kernel_rfl))
  f318 := Tryz.func146.trans (congrArg some (by kernel_rfl))
  f319 := Tryz.func147.trans (congrArg some (by kernel_rfl))
  f320 := Tryz.func148.trans (congrArg some (by kernel_rfl))
  f321 := Tryz.func149.trans (congrArg some (by kernel_rfl))
  f322 := Tryz.func150.trans (congrArg some (by kernel_rfl))
  f337 := Tryz.func152.trans (congrArg some (by kernel_rfl))
  f338 := Tryz.func153.trans (congrArg some (by kernel_rfl))
  t0 := Tryz.underlying0
  a0 := Tryz.isAgg0
  z0 := Tryz.sizeOf0
  v0 := Tryz.zeroValue0
  t2 := Tryz.underlying2
  a2 := Tryz.isAgg2
  z2 := Tryz.sizeOf2
  v2 := Tryz.zeroValue2
  t3 := Tryz.underlying3
  a3 := Tryz.isAgg3
  z3 := Tryz.sizeOf3
  v3 := Tryz.zeroValue3
  t4 := Tryz.underlying4
  a4 := Tryz.isAgg4
  z4 := Tryz.sizeOf4
  v4 := Tryz.zeroValue4
  t5 := Tryz.underlying5
  a5 := Tryz.isAgg5
  z5 := Tryz.sizeOf5
  v5 := Tryz.zeroValue5
  t9 := Tryz.underlying9
  a9 := Tryz.isAgg9
  z9 := Tryz.sizeOf9
  v9 := Tryz.zeroValue9
  t20 := Tryz.underlying20
  a20 := Tryz.isAgg20
  z20 := Tryz.sizeOf20
  v20 := Tryz.zeroValue20
  t21 := Tryz.underlying21
  a21 := Tryz.isAgg21
  z21 := Tryz.sizeOf21
  v21 := Tryz.zeroValue21
  t37 := Tryz.underlying101
  a37 := Tryz.isAgg101
  z37 := Tryz.sizeOf101
  v37 := Tryz.zeroValue101
  t46 := Tryz.underlying49
  a46 := Tryz.isAgg49
  z46 := Tryz.sizeOf49
  v46 := Tryz.zeroValue49
  t51 := Tryz.underlying201
  a51 := Tryz.isAgg201
  z51 := Tryz.sizeOf201
  v51 := Tryz.zeroValue201
  t53 := Tryz.underlying190
  a53 := Tryz.isAgg190
  z53 := Tryz.sizeOf190
  v53 := Tryz.zeroValue190
  t75 := Tryz.underlying154
  a75 := Tryz.isAgg154
  z75 := Tryz.sizeOf154
  v75 := Tryz.zeroValue154
  t76 := Tryz.underlying155
  a76 := Tryz.isAgg155
  z76 := Tryz.sizeOf155
  v76 := Tryz.zeroValue155
  t85 := Tryz.underlying183
  a85 := Tryz.isAgg183
  z85 := Tryz.sizeOf183
  v85 := Tryz.zeroValue183
  t127 := Tryz.underlying205
  a127 := Tryz.isAgg205
  z127 := Tryz.sizeOf205
  v127 := Tryz.zeroValue205
  t143 := Tryz.underlying206
  a143 := Tryz.isAgg206
  z143 := Tryz.sizeOf206
  v143 := Tryz.zeroValue206
  t145 := Tryz.underlying208
  a145 := Tryz.isAgg208
  z145 := Tryz.sizeOf208
  v145 := Tryz.zeroValue208
  t167 := Tryz.underlying182
  a167 := Tryz.isAgg182
  z167 := Tryz.sizeOf182
  v167 := Tryz.zeroValue182
  t168 := Tryz.underlying185
  a168 := Tryz.isAgg185
  z168 := Tryz.sizeOf185
  v168 := Tryz.zeroValue185
  t171 := Tryz.underlying189
  a171 := Tryz.isAgg189
  z171 := Tryz.sizeOf189
  v171 := Tryz.zeroValue189
  t173 := Tryz.underlying193
  a173 := Tryz.isAgg193
  z173 := Tryz.sizeOf193
  v173 := Tryz.zeroValue193
  t175 := Tryz.underlying195
  a175 := Tryz.isAgg195
  z175 := Tryz.sizeOf195
  v175 := Tryz.zeroValue195
  t210 := Tryz.underlying198
  a210 := Tryz.isAgg198
  z210 := Tryz.sizeOf198
  v210 := Tryz.zeroValue198
  t212 := Tryz.underlying200
  a212 := Tryz.isAgg200
  z212 := Tryz.sizeOf200
  v212 := Tryz.zeroValue200
  t213 := Tryz.underlying202
  a213 := Tryz.isAgg202
  z213 := Tryz.sizeOf202
  t232 := Tryz.underlying210
  a232 := Tryz.isAgg210
  z232 := Tryz.sizeOf210
  v232 := Tryz.zeroValue210
  t233 := Tryz.underlying211
  a233 := Tryz.isAgg211
  z233 := Tryz.sizeOf211
  v233 := Tryz.zeroValue211
  g15 := by kernel_rfl
  g16 := by kernel_rfl
  g17 := by kernel_rfl
  g18 := by kernel_rfl
  g19 := by kernel_rfl
  t80 := Tryz.underlying217
  a80 := Tryz.isAgg217
  z80 := Tryz.sizeOf217
  v80 := Tryz.zeroValue217
  i0 := by kernel_rfl
  i2 := by kernel_rfl
  i3 := by kernel_rfl
  i4 := by kernel_rfl
  i5 := by kernel_rfl
  i9 := by kernel_rfl
  i20 := by kernel_rfl
  i21 := by kernel_rfl
  i37 := by kernel_rfl
  i46 := by kernel_rfl
  i51 := by kernel_rfl
  i53 := by kernel_rfl
  i75 := by kernel_rfl
  i76 := by kernel_rfl
  i80 := by kernel_rfl
  i85 := by kernel_rfl
  i127 := by kernel_rfl
  i143 := by kernel_rfl
  i145 := by kernel_rfl
  i167 := by kernel_rfl
  i168 := by kernel_rfl
  i171 := by kernel_rfl
  i173 := by kernel_rfl
  i175 := by kernel_rfl
  i210 := by kernel_rfl
  i212 := by kernel_rfl
  i232 := by kernel_rfl
  i233 := by kernel_rfl
  m15 := by kernel_rfl
  m16 := by kernel_rfl
  m17 := by kernel_rfl
  m18 := by kernel_rfl
  m19 := by kernel_rfl
  c0 := by kernel_rfl
  c2 := by kernel_rfl
  c3 := by kernel_rfl
  c4 := by kernel_rfl
  c5 := by kernel_rfl
  c9 := by kernel_rfl
  c20 := by kernel_rfl
  c21 := by kernel_rfl
  c37 := by kernel_rfl
  c46 := by kernel_rfl
  c51 := by kernel_rfl
  c53 := by kernel_rfl
  c75 := by kernel_rfl
  c76 := by kernel_rfl
  c80 := by kernel_rfl
  c85 := by kernel_rfl
  c127 := by kernel_rfl
  c143 := by kernel_rfl
  c145 := by kernel_rfl
  c167 := by kernel_rfl
  c168 := by kernel_rfl
  c171 := by kernel_rfl
  c173 := by kernel_rfl
  c175 := by kernel_rfl
  c210 := by kernel_rfl
  c212 := by kernel_rfl
  c213 := by kernel_rfl
  c232 := by kernel_rfl
  c233 := by kernel_rfl }
open Go.RowKit in
theorem Tryz.strconv_Atoi_ok (s : ByteArray) (hmax : s.size ≤ 9223372036854775806) (v : Int) (h : Lib.atoiAll s.data.toList = .ok v) (w : World) :
    Calls Tryz.prog 98 #[.string s] w fun e w' => e = .returned (.tuple #[.int .i64 v, .nilIface]) ∧ (w' = w ∨ ∃ t, w' = Lib.bytesWorld w 5 t) := Any.strconv_Atoi_ok Tryz.laysC172 s hmax v h w
open Go.RowKit in
theorem Tryz.strconv_Atoi_syntax_var (s : ByteArray) (hlim : s.size ≤ 281474976710656) (h : ∀ v, Lib.atoiAll s.data.toList ≠ .ok v) (h2 : Lib.atoiAll s.data.toList ≠ .range) (tp : TypeId) (p : Value) (w : World) (hvar : w.var? Tryz.prog "strconv.ErrSyntax" = some #[.iface tp p]) :
    Calls Tryz.prog 98 #[.string s] w fun e w' => ∃ N, e = .returned (.tuple #[.int .i64 0, .iface 185 (.pointer (some ⟨N, 0, none⟩))]) ∧ w.heap.size ≤ N ∧ w'.heap[N]? = some (.cells #[.string ⟨#[65, 116, 111, 105]⟩, .string s, .iface tp p] 198 (0, 0)) ∧ Below w.heap.size w w' := Any.strconv_Atoi_syntax_var Tryz.laysC172 s hlim (by cases hq : Lib.atoiAll s.data.toList with | ok v => exact absurd hq (h v) | range => exact absurd hq h2 | _ => rfl) tp p w hvar
open Go.RowKit in
theorem Tryz.strconv_Atoi_range_var (s : ByteArray) (hlim : s.size ≤ 281474976710656) (h : Lib.atoiAll s.data.toList = .range) (tp : TypeId) (p : Value) (w : World) (hvar : w.var? Tryz.prog "strconv.ErrRange" = some #[.iface tp p]) :
    Calls Tryz.prog 98 #[.string s] w fun e w' => ∃ N, e = .returned (.tuple #[.int .i64 (Lib.atoiSat s.data.toList), .iface 185 (.pointer (some ⟨N, 0, none⟩))]) ∧ w.heap.size ≤ N ∧ w'.heap[N]? = some (.cells #[.string ⟨#[65, 116, 111, 105]⟩, .string s, .iface tp p] 198 (0, 0)) ∧ Below w.heap.size w w' := Any.strconv_Atoi_range_var Tryz.laysC172 s hlim h tp p w hvar
end Go.Proofs
namespace Go.Proofs.YtjnpkdpljmkpiaaGreatDoor
open Go.RowKit Go.Shelf Tx
structure Gl (W : World) : Prop where
  tab : Lib.TabIs Tryz.prog W "internal/strconv.uint64pow10" .u64 Lib.pow10Tab
  syn : ∃ tp p, W.var? Tryz.prog "strconv.ErrSyntax" = some #[.iface tp p]
  ran : ∃ tp p, W.var? Tryz.prog "strconv.ErrRange" = some #[.iface tp p]
  shaped : W.ShapedOpen Tryz.prog
theorem var_below {P : Program} {n : String} {g : Nat} {v : Array Value} {w w' : World} (hg : P.globalNamed n = some g) (h : w.var? P n = some v) (hb : Below w.heap.size w w') : w'.var? P n = some v := by
  unfold World.var? at h ⊢
  rw [hg] at h ⊢
  simp only [Option.bind_some] at h ⊢
  have hlt : g < w.heap.size := by
    rcases Nat.lt_or_ge g w.heap.size with h' | h'
    · exact h'
    · rw [Array.getElem?_eq_none h'] at h; cases h
  rw [hb.block g hlt]
  exact h
theorem Gl.below {w w' : World} (h : Gl w) (hb : Below w.heap.size w w') : Gl w' := by
  obtain ⟨a, b, h1⟩ := h.syn
  obtain ⟨c, d, h2⟩ := h.ran
  exact ⟨var_below (show Tryz.prog.globalNamed "internal/strconv.uint64pow10" = some 2 by kernel_rfl) h.tab hb,
    ⟨a, b, var_below (show Tryz.prog.globalNamed "strconv.ErrSyntax" = some 0 by kernel_rfl) h1 hb⟩,
    ⟨c, d, var_below (show Tryz.prog.globalNamed "strconv.ErrRange" = some 1 by kernel_rfl) h2 hb⟩,
    h.shaped.keptBut (hb.frame (fun _ => False)) (fun _ q => q.elim)⟩
theorem below_more (w : World) (k : Nat) (os : Array Obj) : Below w.heap.size w (Go.Sort.grow (w.drewN k) os) :=
  ⟨rfl, rfl, rfl, by show _ ≤ (w.heap ++ os).size; simp, fun i hi => by show (w.heap ++ os)[i]? = _; rw [Array.getElem?_append_left hi]⟩
theorem itoa_any (k : Nat) (hk : k < 10000000000) (w : World) (G : Gl w) : Calls Tryz.prog 92 #[.int .i64 k] w fun e w' => e = .returned (.string ⟨(Fx.dec k).toArray⟩) ∧ Below w.heap.size w w' := by
  refine (Tryz.strconv_Itoa (k : Int) (by omega) (by omega) w G.tab).mono ?_
  rintro e w2 ⟨h, q, os, rfl⟩
  exact ⟨by rw [h, Ux.itoa_nat], below_more w q os⟩
theorem itoa_int (n : Int) (h0 : -9223372036854775808 ≤ n) (h1 : n ≤ 9223372036854775807) (w : World) (G : Gl w) : Calls Tryz.prog 92 #[.int .i64 n] w fun e w' => e = .returned (.string ⟨(Lib.itoa n).toArray⟩) ∧ Below w.heap.size w w' := by
  refine (Tryz.strconv_Itoa n h0 h1 w G.tab).mono ?_
  rintro e w2 ⟨h, q, os, rfl⟩
  exact ⟨h, below_more w q os⟩
end Go.Proofs.YtjnpkdpljmkpiaaGreatDoor
namespace Go.Proofs.YtjnpkdpljmkpiaaGreatDoor
open Go.RowKit Go.Shelf Tx
abbrev Tsp : Nat := 89
structure Gs (sp : Nat) (w : World) (v : Value) (w' : World) (v' : Value) : Prop where
  os : w'.os = w.os
  tape : w'.tape = w.tape
  output : w'.output = w.output
  size : w.heap.size ≤ w'.heap.size
  block : ∀ k, k < w.heap.size → k ≠ sp → v.ownBlock ≠ some k → w'.heap[k]? = w.heap[k]?
  own : ∀ g, v'.ownBlock = some g → v.ownBlock = some g ∨ w.heap.size ≤ g
section
variable {sp base : Nat} {w w1 w2 : World} {v v1 v2 : Value} {A : List (List Nd)}
theorem Gs.refl (sp : Nat) (w : World) (v : Value) : Gs sp w v w v := ⟨rfl, rfl, rfl, Nat.le_refl _, fun _ _ _ _ => rfl, fun _ h => Or.inl h⟩
theorem Gs.of_below (v : Value) (h : Below w.heap.size w w1) : Gs sp w v w1 v := ⟨h.os, h.tape, h.output, h.size, fun k hk _ _ => h.block k hk, fun _ h => Or.inl h⟩
theorem Gs.trans (h : Gs sp w v w1 v1) (k : Gs sp w1 v1 w2 v2) : Gs sp w v w2 v2 :=
  ⟨k.os.trans h.os, k.tape.trans h.tape, k.output.trans h.output, Nat.le_trans h.size k.size,
   fun i hi hs hn => (k.block i (Nat.lt_of_lt_of_le hi h.size) hs (fun e => by
     rcases h.own i e with q | q
     · exact hn q
     · omega)).trans (h.block i hi hs hn),
   fun g hg => by
     rcases k.own g hg with q | q
     · exact h.own g q
     · exact Or.inr (Nat.le_trans h.size q)⟩
theorem Gs.then (h : Gs sp w v w1 v1) (k : Below w1.heap.size w1 w2) : Gs sp w v w2 v1 := h.trans (Gs.of_below _ k)
theorem Gs.other {u u' : Value} (h : Gs sp w v w1 v1) (k : Gr w1 u w2 u') (hu : ∀ g, u.ownBlock = some g → w.heap.size ≤ g) : Gs sp w v w2 v1 :=
  ⟨k.os.trans h.os, k.tape.trans h.tape, k.output.trans h.output, Nat.le_trans h.size k.size,
   fun i hi hs hn => (k.block i (Nat.lt_of_lt_of_le hi h.size) (fun e => by have := hu i e; omega)).trans (h.block i hi hs hn), h.own⟩
theorem Gs.below {w0 : World} (h : Gs sp w v w1 v1) (hb : Below base w0 w) (hB : base ≤ w.heap.size) (hs : base ≤ sp) (hv : ∀ g, v.ownBlock = some g → base ≤ g) : Below base w0 w1 :=
  hb.trans ⟨h.os, h.tape, h.output, h.size, fun k hk => h.block k (by omega) (by omega) (fun e => by have := hv k e; omega)⟩
theorem Gs.keeps (h : Gs sp w v w1 v1) (hs : Blk w sp #[v] Tsp) (hr : RwE base w v A) {b T : Nat} {cs : Array Value} {fr : Nat × Nat} (hb : w.heap[b]? = some (.cells cs T fr)) (hT1 : T ≠ Tsp) (hT2 : T ≠ 30) : w1.heap[b]? = some (.cells cs T fr) := by
  refine (h.block b (Array.getElem?_eq_some_iff.1 hb).1 ?_ ?_).trans hb
  · rintro rfl
    unfold Blk at hs
    rw [hs] at hb
    cases hb; exact hT1 rfl
  · intro e
    obtain ⟨vs, h1, _⟩ := hr
    rcases h1.2 with ⟨rfl, _⟩ | ⟨g, cap, cur, rfl, _, hg, _⟩
    · cases e
    · cases e
      rw [hg] at hb
      cases hb; exact hT2 rfl
theorem Gs.blk (h : Gs sp w v w1 v1) (hs : Blk w sp #[v] Tsp) (hr : RwE base w v A) {b T : Nat} {cs : Array Value} (hb : Blk w b cs T) (hT1 : T ≠ Tsp) (hT2 : T ≠ 30) : Blk w1 b cs T := h.keeps hs hr hb hT1 hT2
theorem Gs.row (h : Gs sp w v w1 v1) (hs : Blk w sp #[v] Tsp) (hr : RwE base w v A) {b2 e size n : Nat} {u : Value} {xs : List Value} (ho : w.ownsRow b2 e size u n xs) (hT1 : e ≠ Tsp) (hT2 : e ≠ 30) : w1.ownsRow b2 e size u n xs := by
  refine ⟨ho.1, ?_⟩
  rcases ho.2 with h0 | ⟨g, cap, cur, rfl, hb, hg, rest⟩
  · exact Or.inl h0
  · exact Or.inr ⟨g, cap, cur, rfl, hb, h.keeps hs hr hg hT1 hT2, rest⟩
theorem Gs.ownE (h : Gs sp w v w1 v1) (hs : Blk w sp #[v] Tsp) (hr : RwE base w v A) {b2 : Nat} {u : Value} {e : List Nd} (ho : OwnE b2 w u e) : OwnE b2 w1 u e := h.row hs hr ho (by decide) (by decide)
theorem Gs.rowI (h : Gs sp w v w1 v1) (hs : Blk w sp #[v] Tsp) (hr : RwE base w v A) {b2 : Nat} {u : Value} {l : List Int} (ho : RowI b2 w u l) : RowI b2 w1 u l := by
  rcases ho with ho | ⟨g, h1, h2, h3⟩
  · exact Or.inl ho
  · exact Or.inr ⟨g, h1, h2, h.blk hs hr h3 (by decide) (by decide)⟩
theorem Gs.rwE (h : Gs sp w v w1 v1) (hs : Blk w sp #[v] Tsp) (hr : RwE base w v A) {b2 : Nat} {u : Value} {L : List (List Nd)} (ho : RwE b2 w u L) (hd : ∀ g, u.ownBlock = some g → v.ownBlock ≠ some g) :
    RwE b2 w1 u L ∧ ∀ g, u.ownBlock = some g → v1.ownBlock ≠ some g := by
  have hlow := ho.low
  obtain ⟨vs, h1, h2⟩ := ho
  refine ⟨⟨vs, row_kept h1 (fun g hg he hl => ?_), fun i x e hx he => h.ownE hs hr (h2 i x e hx he)⟩, fun g hg e => ?_⟩
  · refine h.block g hl ?_ (hd g he)
    rintro rfl
    rcases h1.2 with ⟨rfl, _⟩ | ⟨g', cap, cur, rfl, _, hg', _⟩
    · cases he
    · cases he
      unfold Blk at hs
      rw [hs] at hg'
      cases hg'
  · rcases h.own g e with q | q
    · exact hd g hg q
    · have := (hlow g hg).2; omega
end
theorem step_atom {ops : Array Oper} {o : Oper} {a : Act} {K : Act → World → Prop} {Q : Exit → Act → World → Prop} {E : Prop} {W : World} {base sp n : Nat} {av xv : Value} {vs : List Value}
    (hgd : o.guard = none) (p q : Operand) (ho : o.op = .call { callee := .builtin .append, args := #[p, q], argTypes := #[22, 22] })
    (hp : a.eval p = av) (hq : a.eval q = .slice (some ⟨W.heap.size, 0, none⟩) 1 1)
    (hown : W.ownsRow base 30 1 av n vs) (hlen : n ≤ 1000000) (hbase : base ≤ W.heap.size) (h1x : xv.oneCell' = true)
    (hne : av.ownBlock ≠ some sp) (hlt : sp < W.heap.size) (hc : W.cell? ⟨sp, 0, none⟩ = some av) (hf : W.frozen? ⟨sp, 0, none⟩ = false)
    (hK : ∀ g cap w1, w1.ownsRow base 30 1 (.slice (some ⟨g, 0, none⟩) (n + 1) cap) (n + 1) (vs ++ [xv]) →
      ((W.alloc (.cells #[xv] 30)).drew).grownBy w1 av.ownBlock → (av.ownBlock = some g ∨ g = W.heap.size + 1) → w1.cell? ⟨sp, 0, none⟩ = some av → w1.frozen? ⟨sp, 0, none⟩ = false → K (a.put o.dst (.slice (some ⟨g, 0, none⟩) (n + 1) cap)) w1) :
    if Region.wanted o (yielded ops a.tmps) = true then Oper.wp Tryz.prog o a ((W.alloc (.cells #[xv] 30)).drew) K Q else E := by
  obtain ⟨i0, z, hi, hz, hsize, hby, hzs⟩ := rowE.ex
  refine step_append_lies _ hgd p q 22 ho base 30 i0 z 1 24 rowE.ht hi hz hsize hby hzs (by decide) _ _ _ hp ((hown.alloc _).drew) _ 1 1 [xv] hq rfl
    (World.news_of_block (heap_alloc_new W _)) (by simp [h1x]) (by omega) (by unfold maxLen; omega) (by omega) (by show base ≤ (W.heap.push _).size; simp; omega) (W.heap.size + 1) (by show (W.heap.push _).size = _; simp) ?_
  intro g cap w1 h1 h2 h3 _
  have hb : w1.heap[sp]? = W.heap[sp]? := by
    rw [h2.block sp (by show sp < (W.heap.push _).size; simp; omega) (fun e => hne e.symm)]
    exact Below.heap_alloc _ _ _ hlt
  exact hK g cap w1 h1 h2 h3 ((World.cell?_of_block hb).trans hc) ((World.frozen?_of_block hb).trans hf)
theorem RwE.setSp {base sp : Nat} {w : World} {v y u : Value} {A : List (List Nd)} (h : RwE base w v A) (hs : Blk w sp #[u] Tsp) : RwE base (w.setCell ⟨sp, 0, none⟩ y) v A := by
  have key : ∀ {b e size n : Nat} {u' : Value} {xs : List Value}, w.ownsRow b e size u' n xs → e ≠ Tsp → (w.setCell ⟨sp, 0, none⟩ y).ownsRow b e size u' n xs := fun {b e size n u' xs} ho he => by
    refine row_kept ho fun g hg hu hl => Below.heap_setCell _ _ _ _ ?_
    show g ≠ sp
    rintro rfl
    rcases ho.2 with ⟨rfl, _⟩ | ⟨g', cap, cur, rfl, _, hg', _⟩
    · cases hu
    · cases hu
      unfold Blk at hs; rw [hs] at hg'
      cases hg'; exact he rfl
  obtain ⟨vs, h1, h2⟩ := h
  exact ⟨vs, key h1 (by decide), fun i x e hx he => key (h2 i x e hx he) (by decide)⟩
theorem atom_more {base sp : Nat} {w4 w1 : World} {av xv : Value} {A : List (List Nd)} {X : List Nd} {vs : List Value} {g cap al : Nat} (hal : A.length = al) (hs : Blk w4 sp #[av] Tsp) (hrow : w4.ownsRow base 30 1 av al vs)
    (hvs : ∀ (i : Nat) (u : Value) (e : List Nd), vs[i]? = some u → A[i]? = some e → OwnE base w4 u e) (hx : OwnE base w4 xv X) (hne : av.ownBlock ≠ some sp)
    (hown : w1.ownsRow base 30 1 (.slice (some ⟨g, 0, none⟩) (al + 1) cap) (al + 1) (vs ++ [xv])) (hgrow : ((w4.alloc (.cells #[xv] 30)).drew).grownBy w1 av.ownBlock) (hat : av.ownBlock = some g ∨ g = w4.heap.size + 1) :
    Blk (w1.setCell ⟨sp, 0, none⟩ (.slice (some ⟨g, 0, none⟩) (al + 1) cap)) sp #[.slice (some ⟨g, 0, none⟩) (al + 1) cap] Tsp ∧ RwE base (w1.setCell ⟨sp, 0, none⟩ (.slice (some ⟨g, 0, none⟩) (al + 1) cap)) (.slice (some ⟨g, 0, none⟩) (al + 1) cap) (A ++ [X]) ∧
      Gs sp w4 av (w1.setCell ⟨sp, 0, none⟩ (.slice (some ⟨g, 0, none⟩) (al + 1) cap)) (.slice (some ⟨g, 0, none⟩) (al + 1) cap) := by
  have hgrow2 : (w4.alloc (.cells #[xv] 30)).grownBy w1 av.ownBlock := ⟨hgrow.os, hgrow.tape, hgrow.output, hgrow.size, hgrow.block⟩
  have hlt := hs.lt
  have hs1 : Blk w1 sp #[av] Tsp := by
    unfold Blk
    rw [hgrow2.block sp (by show sp < (w4.heap.push _).size; simp; omega) (fun e => hne e.symm)]
    exact (Below.heap_alloc _ _ _ hlt).trans hs
  have hr := RwE.push hal hrow hvs hx hown hgrow2
  have hgr : Gr w4 av w1 (.slice (some ⟨g, 0, none⟩) (al + 1) cap) := gr_append hgrow2 hat
  refine ⟨?_, hr.setSp hs1, ⟨hgr.os, hgr.tape, hgr.output, ?_, fun k hk hks hn => ?_, hgr.own⟩⟩
  · exact hs1.set1 _
  · have := hgr.size; simp [World.setCell]; omega
  · rw [Below.heap_setCell _ _ _ _ (by show k ≠ sp; exact hks)]
    exact hgr.block k hk hn
theorem firstI_idx {A : List (List Nd)} {x : List Nd} : (x ∈ A → firstI (fun y => decide (x = y)) A = (A.idxOf x : Int)) ∧ (x ∉ A → firstI (fun y => decide (x = y)) A = -1) := by
  refine ⟨fun h => ?_, fun h => firstI_none (by rw [List.any_eq_false]; intro y hy; simp; rintro rfl; exact h hy)⟩
  have h1 := List.idxOf_lt_length_iff.2 h
  have h2 : A[A.idxOf x]? = some x := by rw [List.getElem?_eq_getElem h1, List.getElem_idxOf]
  refine firstI_at h2 (by simp) ?_
  rw [List.any_eq_false]
  intro y hy
  simp only [decide_eq_true_eq]
  rintro rfl
  obtain ⟨j, hj, he⟩ := List.mem_take_iff_getElem.1 hy
  have hj2 : j < List.findIdx (· == x) A := by have : j < A.idxOf x := by omega
                                               simpa [List.idxOf] using this
  have h3 := List.not_of_lt_findIdx hj2
  rw [he] at h3
  simp at h3
theorem cut_lens (F : Fo) : ∀ A, ∀ y ∈ (Ux.cutF F A).2, y ∈ A ∨ y.length ≤ F.size := by
  induction F with
  | no => intro A y hy; exact Or.inl hy
  | tr op n s ks r ihk ih =>
    intro A y hy
    simp only [Ux.cutF] at hy
    split at hy
    · rcases ih _ y hy with h | h
      · rcases ihk A y h with h | h
        · exact Or.inl h
        · exact Or.inr (by simp only [Fo.size]; omega)
      · exact Or.inr (by simp only [Fo.size]; omega)
    · rcases ih _ y hy with h | h
      · split at h
        · exact Or.inl h
        · rcases List.mem_append.1 h with h | h
          · exact Or.inl h
          · rw [List.mem_singleton.1 h, Fo.flat_len]; exact Or.inr (by simp only [Fo.size]; omega)
      · exact Or.inr (by simp only [Fo.size]; omega)
end Go.Proofs.YtjnpkdpljmkpiaaGreatDoor
namespace Go.Proofs.YtjnpkdpljmkpiaaGreatDoor
open Go.RowKit Go.Shelf Tx
def CutPost (e : List Nd) (base sp i : Nat) (A : List (List Nd)) (w : World) (av : Value) (r : Ending) (w' : World) : Prop :=
  ∃ v av', r = .returned v ∧ OwnE w.heap.size w' v ((Ux.cutF (T e i) A).1.flat 0) ∧ Blk w' sp #[av'] Tsp ∧ RwE base w' av' (Ux.cutF (T e i) A).2 ∧ Gs sp w av w' av'
structure CutIn (e : List Nd) (base sp i : Nat) (A : List (List Nd)) (w : World) (ev av : Value) : Prop where
  may : mayB e = true
  few : e.length ≤ 5000
  lt : i < e.length
  row : OwnE base w ev e
  here : Blk w sp #[av] Tsp
  atoms : RwE base w av A
  sp : base ≤ sp
  many : A.length + (T e i).size ≤ 500000
  lens : ∀ y ∈ A, y.length ≤ 1000000
  gl : ∃ w00, Gl w00 ∧ Below w00.heap.size w00 w ∧ w00.heap.size ≤ base
theorem CutIn.glAt {e : List Nd} {base sp i : Nat} {A : List (List Nd)} {w w' : World} {ev av av' : Value} (h : CutIn e base sp i A w ev av) (hG : Gs sp w av w' av') : Gl w' := by
  obtain ⟨w0, g, hb, hs⟩ := h.gl
  exact g.below (hG.below hb hb.size (Nat.le_trans hs h.sp) (fun g hg => Nat.le_trans hs (h.atoms.low g hg).1))
theorem cut_leafF {e : List Nd} {i : Nat} {x : Nd} {A : List (List Nd)} (hR : InR e) (hx : e[i]? = some x) (hl : Ux.isLogic x.op = false) :
    Ux.cutF (T e i) A = (.tr 3 0 (Ux.atomName (A.idxOf ((T e i).flat 0))) .no .no, if (T e i).flat 0 ∈ A then A else A ++ [(T e i).flat 0]) := by
  have h := T_at hx (hR i x hx)
  rw [h]
  simp only [Ux.cutF, hl, Bool.false_eq_true, if_false]
set_option maxRecDepth 100000 in
set_option maxHeartbeats 4000000 in
theorem cut_leaf (e : List Nd) (base sp i : Nat) (A : List (List Nd)) (w : World) (ev av : Value) (x : Nd) (hx : e[i]? = some x) (hl : Ux.isLogic x.op = false) (h : CutIn e base sp i A w ev av) :
    Calls Tryz.prog 46 #[.pointer (some ⟨sp, 0, none⟩), ev, .int .i64 i] w (CutPost e base sp i A w av) := by
  obtain ⟨a, c, rfl, hc⟩ := h.row.form
  obtain ⟨n, hn⟩ : ∃ n, n = e.length := ⟨_, rfl⟩
  have hR := (mayB_iff e).1 h.may |>.inR
  have HF := Lib.hid (cut_leafF (A := A) hR hx hl)
  obtain ⟨a1, c1, hf1, -, hcell⟩ := h.row.isE.form
  cases hf1
  obtain ⟨b, o, rfl, hg⟩ := hcell w (Below.refl _ _) i x hx
  obtain ⟨k0, k1, k2, k3, k4, k5⟩ := nd_cells hg
  rw [← hn] at hc ⊢
  have hlt : (i : Int) < (n : Int) := by have := h.lt; omega
  have hi0 : (0 : Int) ≤ (i : Int) := by omega
  obtain ⟨X, hX⟩ : ∃ X, X = (T e i).flat 0 := ⟨_, rfl⟩
  have hXl : X.length ≤ e.length := by
    rw [hX, Fo.flat_len]
    have := T_size hR ((mayB_iff e).1 h.may).nodup h.lt
    have := h.lt; omega
  rw [← hX] at HF
  have nb := (Below.refl w.heap.size w).alloc (Nat.le_refl _) (.cells #[.int .i64 x.op, .int .i64 x.a, .int .i64 x.b, .int .i64 x.c, .int .i64 x.n, .string x.s] 42)
  have hsub : Hid (∀ W, Below w.heap.size w W → Calls Tryz.prog 45 #[.slice (some ⟨b, o, none⟩) n c, .int .i64 i] W fun r w' => ∃ v, r = .returned v ∧ OwnE W.heap.size w' v X ∧ Below W.heap.size W w') := fun W hW => by
    have hs := Sub_any e (.slice (some ⟨b, o, none⟩) n c) i W (by have := h.few; omega) (by rw [hn]; exact Sl.below h.row.isE hW)
    have e1 : subL e (i : Int) = X := by
      unfold subL; rw [if_pos ⟨by omega, by have := h.lt; omega, h.may⟩, hX]; simp
    rw [e1] at hs; exact hs
  have HIN := Lib.hid h
  have HN := Lib.hid hn
  have hlg := fun W => isLogic_any x.op W
  rw [hl] at hlg
  clear hcell hg h hR hX hx hl hn
  go_enter Tryz.func46, Tryz.ntmps46
  go_wp2_with fail
  refine (hlg _).mono ?_
  rintro r w1 ⟨rfl, hw1⟩
  have hb1 : Below w.heap.size w w1 := by rw [hw1]; exact nb
  have HB1 := Lib.hid hb1
  clear hlg hw1 nb hb1 k0 k1 k2 k3 k4 k5
  go_wp2_with fail
  refine (hsub.out w1 HB1.out).mono ?_
  rintro r w2 ⟨xv, rfl, hxo, hb2⟩
  obtain ⟨xa, xc, rfl, hxc⟩ := hxo.form
  obtain ⟨xl, hxl⟩ : ∃ xl, xl = X.length := ⟨_, rfl⟩
  rw [← hxl] at hxo hxc hXl ⊢
  have HXl := Lib.hid hXl
  clear hXl
  have n3 := (Below.refl w2.heap.size w2).alloc (Nat.le_refl _) (.cells #[.slice xa xl xc] 30)
  have hb3 : Below w.heap.size w (w2.alloc (.cells #[.slice xa xl xc] 30)) := below_next (below_next HB1.out hb2) n3
  have hxb := Blk.new w2 #[.slice xa xl xc] 30
  have hxo3 := hxo.below n3
  have hsp3 := HIN.out.here.below hb3
  have hat3 := HIN.out.atoms.below hb3
  have HB3 := Lib.hid hb3
  have hz3 : (w2.alloc (.cells #[.slice xa xl xc] 30)).heap.size = w2.heap.size + 1 := by simp
  have hlt2 : w.heap.size ≤ w2.heap.size := by have := hb2.size; have := HB1.out.size; omega
  have HXO := Lib.hid (hxo3.mono (b2 := w.heap.size) HB1.out.size)
  obtain ⟨cs, fs⟩ := one_cell hsp3
  obtain ⟨av0, hav0, hav1⟩ := hat3.len
  obtain ⟨al, hal⟩ : ∃ al, al = A.length := ⟨_, rfl⟩
  rw [← hal] at hav1
  obtain ⟨cx, fx⟩ := one_cell hxb
  have hXb : X.length ≤ 1000000000 := by have := HXl.out; have := HIN.out.few; omega
  have hidx := indexCut_any A X av w2.heap.size (.slice xa xl xc) (w2.alloc (.cells #[.slice xa xl xc] 30)) (by have := HIN.out.many; omega)
    (RwE.sg (M := A) (q := id) (by simpa using hat3) (fun u y hu => ⟨u, rfl, OwnE.isE hu⟩)) cx hXb (fun y hy => by have := HIN.out.lens y hy; omega) hxo3.isE
  obtain ⟨rfl, hav2⟩ := hav1
  have HSP3 := Lib.hid hsp3
  have HAT3 := Lib.hid hat3
  have HXL := Lib.hid hxl
  have HAL := Lib.hid hal
  have HBN := Lib.hid hxb
  clear hb3 hxb hxo hxo3 hsp3 hat3 hb2 n3 hsub hxl hal hz3 HB1
  by_cases hm : X ∈ A
  · rw [firstI_idx.1 hm] at hidx
    obtain ⟨k, hk⟩ : ∃ k, k = A.idxOf X := ⟨_, rfl⟩
    rw [← hk] at hidx HF
    rw [if_pos hm] at HF
    have hkb : k < al := by rw [hk, HAL.out]; exact List.idxOf_lt_length_iff.2 hm
    have hk9 : k ≤ 500000 := by have := HIN.out.many; have := HAL.out; omega
    clear hm hk
    go_wp2_with fail
    refine hidx.mono ?_
    rintro r w4 ⟨rfl, q, hq⟩
    have hb4 : Below (w2.alloc (.cells #[.slice xa xl xc] 30)).heap.size (w2.alloc (.cells #[.slice xa xl xc] 30)) w4 := by rw [hq]; exact below_drawn (Below.refl _ _) q
    have HB4 := Lib.hid (below_next HB3.out hb4)
    have HSP4 := Lib.hid (HSP3.out.below hb4)
    have HAT4 := Lib.hid (HAT3.out.below hb4)
    obtain ⟨tx, htx⟩ : ∃ tx : ByteArray, tx = ⟨(Fx.dec k).toArray⟩ := ⟨_, rfl⟩
    have hit := itoa_any k (by omega) w4 (HIN.out.glAt (Gs.of_below _ HB4.out))
    rw [← htx] at hit
    have HNM : Hid ((⟨#[63]⟩ : ByteArray) ++ tx = Ux.atomName k) := by
      show _ = _
      refine bytes_ext ?_
      rw [concat_bytes, htx]; simp [Ux.atomName]
    have htxs : tx.size ≤ 20 := by
      have h5 := (Fx.dec_is k).2.2.2.2 9 (by omega)
      rw [htx]; show (Fx.dec k).toArray.size ≤ 20; simp; omega
    have hk0 : (0 : Int) ≤ (k : Int) := by omega
    have hk1 : ¬ ((k : Int) < 0) := by omega
    clear hidx hb4 hq cs fs cx fx htx
    go_wp2_with fail
    refine hit.mono ?_
    rintro r w5 ⟨rfl, hb5⟩
    have hj := Join_any 3 0 ((⟨#[63]⟩ : ByteArray) ++ tx) [] (.slice none 0 0) w5 Sg.nil_ (fun F hF => by simp at hF) (by simp [cat, Fo.size]) (by omega) (fun _ => by
      rw [kids_leaf, if_neg (by omega), if_neg (by omega), if_neg (by omega), if_neg (by omega), if_neg (by omega)]; rfl)
    have HB5 := Lib.hid (below_next HB4.out hb5)
    have HSP5 := Lib.hid (HSP4.out.below hb5)
    have HAT5 := Lib.hid (HAT4.out.below hb5)
    clear hit hb5
    go_wp2_with fail
    refine hj.mono ?_
    rintro r w6 ⟨v6, rfl, ho6, hb6⟩
    have HB6 := Lib.hid (below_next HB5.out hb6)
    have HSP6 := Lib.hid (HSP5.out.below hb6)
    have HAT6 := Lib.hid (HAT5.out.below hb6)
    have HO6 : Hid (OwnE w.heap.size w6 v6 ((Fo.tr 3 0 (Ux.atomName k) .no .no).flat 0)) := by
      show OwnE _ _ _ _
      rw [HNM.out] at ho6
      exact ho6.mono HB5.out.size
    clear hj hb6 ho6
    go_wp2_with fail
    go_ret
    exact ⟨v6, _, rfl, by rw [HF.out]; exact HO6.out, HSP6.out, by rw [HF.out]; exact HAT6.out, Gs.of_below _ HB6.out⟩
  · rw [firstI_idx.2 hm] at hidx
    have hix : A.idxOf X = al := by rw [HAL.out]; exact List.idxOf_eq_length hm
    rw [hix, if_neg hm] at HF
    have hk9 : al ≤ 500000 := by have := HIN.out.many; have := HAL.out; omega
    clear hm hix
    go_wp2_with fail
    refine hidx.mono ?_
    rintro r w4 ⟨rfl, q, hq⟩
    have hb4 : Below (w2.alloc (.cells #[.slice xa xl xc] 30)).heap.size (w2.alloc (.cells #[.slice xa xl xc] 30)) w4 := by rw [hq]; exact below_drawn (Below.refl _ _) q
    have HB4 := Lib.hid (below_next HB3.out hb4)
    have hsp4 := HSP3.out.below hb4
    have hat4 := HAT3.out.below hb4
    have hxo4 := HXO.out.below hb4
    have hbn4 := HBN.out.below hb4
    have hxl2 : w2.heap.size < w4.heap.size := hbn4.lt
    clear hidx hb4 hq cs fs cx fx
    obtain ⟨cs, fs⟩ := one_cell hsp4
    obtain ⟨cx, fx⟩ := one_cell hbn4
    obtain ⟨vs, hrow, hvs⟩ := hat4.row
    rw [← HAL.out] at hrow
    have m4 := (Below.refl w4.heap.size w4).alloc (Nat.le_refl _) (.cells #[.slice xa xl xc] 30)
    have n0 := (m4.cell (p := ⟨sp, 0, none⟩) hsp4.lt).trans cs
    have n1 := (m4.cell (p := ⟨w2.heap.size, 0, none⟩) hxl2).trans cx
    have hspl := hsp4.lt
    have hbl : base ≤ w4.heap.size := by have := HIN.out.sp; omega
    have hne : (Value.slice av0 al hav0).ownBlock ≠ some sp := fun e => by
      rcases hrow.2 with ⟨h1, _⟩ | ⟨g, cap, cur, h1, _, hg, _⟩
      · rw [h1] at e; cases e
      · rw [h1] at e; cases e
        unfold Blk at hsp4; rw [hsp4] at hg; cases hg
    have HSP4 := Lib.hid hsp4
    have HAT4 := Lib.hid hat4
    have HXO4 := Lib.hid hxo4
    have HVS := Lib.hid hvs
    have HROW := Lib.hid hrow
    have HNE := Lib.hid hne
    have hk0 : (0 : Int) ≤ (al : Int) := by omega
    clear hsp4 hat4 hxo4 hvs m4 hbn4
    go_wp2_with fail
    go_region_law (refine step_atom (av := .slice av0 al hav0) rfl _ _ rfl (sp := sp) rfl rfl hrow (by omega) hbl rfl hne hspl cs fs ?_; intro g' cap' w1 hown1 hgrow1 hat1 hc1' hf1')
    all_goals
      obtain ⟨hS, hA, hG⟩ := atom_more HAL.out.symm HSP4.out hrow HVS.out (HXO4.out.mono (by have := HIN.out.sp; have := HIN.out.here.lt; omega)) hne hown1 hgrow1 hat1
      generalize hW2 : w1.setCell ⟨sp, 0, none⟩ (.slice (some ⟨g', 0, none⟩) (al + 1) cap') = W2 at hS hA hG ⊢
      have HS := Lib.hid hS
      have HA := Lib.hid hA
      have HG : Hid (Gs sp w (.slice av0 al hav0) W2 (.slice (some ⟨g', 0, none⟩) (al + 1) cap')) := (Gs.of_below _ HB4.out).trans hG
      have HB : Hid (base ≤ W2.heap.size) := by have := hS.lt; have := HIN.out.sp; show _ ≤ _; omega
      have HGL : Hid (Gl W2) := HIN.out.glAt HG.out
      clear hW2 hS hA hG hown1 hgrow1 hat1 hc1' hf1' hrow cs fs cx fx n0 n1 hne
      obtain ⟨tx, htx⟩ : ∃ tx : ByteArray, tx = ⟨(Fx.dec al).toArray⟩ := ⟨_, rfl⟩
      have hit := itoa_any al (by omega) W2 HGL.out
      rw [← htx] at hit
      have HNM : Hid ((⟨#[63]⟩ : ByteArray) ++ tx = Ux.atomName al) := by
        show _ = _
        refine bytes_ext ?_
        rw [concat_bytes, htx]; simp [Ux.atomName]
      have htxs : tx.size ≤ 20 := by
        have h5 := (Fx.dec_is al).2.2.2.2 9 (by omega)
        rw [htx]; show (Fx.dec al).toArray.size ≤ 20; simp; omega
      clear htx
      go_wp2_with fail
      refine hit.mono ?_
      rintro r w5 ⟨rfl, hb5⟩
      have hj := Join_any 3 0 ((⟨#[63]⟩ : ByteArray) ++ tx) [] (.slice none 0 0) w5 Sg.nil_ (fun F hF => by simp at hF) (by simp [cat, Fo.size]) (by omega) (fun _ => by
        rw [kids_leaf, if_neg (by omega), if_neg (by omega), if_neg (by omega), if_neg (by omega), if_neg (by omega)]; rfl)
      have HS5 := Lib.hid (HS.out.below hb5)
      have HA5 := Lib.hid (HA.out.below hb5)
      have HG5 := Lib.hid (HG.out.then hb5)
      clear hit hb5
      go_wp2_with fail
      refine hj.mono ?_
      rintro r w6 ⟨v6, rfl, ho6, hb6⟩
      have HS6 := Lib.hid (HS5.out.below hb6)
      have HA6 := Lib.hid (HA5.out.below hb6)
      have HG6 := Lib.hid (HG5.out.then hb6)
      have HO6 : Hid (OwnE w.heap.size w6 v6 ((Fo.tr 3 0 (Ux.atomName al) .no .no).flat 0)) := by
        show OwnE _ _ _ _
        rw [HNM.out] at ho6
        exact ho6.mono HG5.out.size
      clear hj hb6 ho6
      go_wp2_with fail
      go_ret
      exact ⟨v6, _, rfl, by rw [HF.out]; exact HO6.out, HS6.out, by rw [HF.out]; exact HA6.out, HG6.out⟩
end Go.Proofs.YtjnpkdpljmkpiaaGreatDoor
namespace Go.Proofs.YtjnpkdpljmkpiaaGreatDoor
open Go.RowKit Go.Shelf
theorem digit_conv (n : Nat) (w : World) : (convert 101 9 (.slice (some ⟨w.heap.size, 0, none⟩) 1 1)).run Tryz.prog (w.alloc (.cells #[.int .u8 (48 + (n : Int) % 10)] 5)) = .ok (.string ⟨#[Fx.dg (n % 10)]⟩) (w.alloc (.cells #[.int .u8 (48 + (n : Int) % 10)] 5)) := by
  refine run_convert_bytes_back _ _ _ 5 _ 1 [Fx.dg (n % 10)] Tryz.underlying101 Tryz.underlying5 Tryz.underlying9 (fun j hj => ?_)
  have hj0 : j = 0 := by simpa using hj
  subst hj0
  have hb := heap_alloc_new w (.cells #[.int .u8 (48 + (n : Int) % 10)] 5)
  have e : ((Fx.dg (n % 10)).toNat : Int) = 48 + (n : Int) % 10 := by rw [Fx.byte_of (by omega)]; omega
  simp only [List.getElem_cons_zero, e]
  unfold World.cell? Addr.add
  simp only [Nat.add_zero, if_true]
  rw [hb]; rfl
set_option maxRecDepth 100000 in
set_option maxHeartbeats 1000000 in
theorem rDigits_any : ∀ (n : Nat), n < 10000000000 → ∀ w : World, Calls Tryz.prog 19 #[.int .i64 n] w fun e w' => ∃ t : ByteArray, e = .returned (.string t) ∧ t.data.toList = Fx.dec n ∧ Below w.heap.size w w' := by
  intro n
  induction n using Nat.strongRecOn with
  | _ n ih =>
    intro hn w
    have h63 : (n : Int) < 10000000000 := by omega
    have hn0 : (0 : Int) ≤ (n : Int) := by omega
    have hm : (n : Int).tmod 10 = (n : Int) % 10 := Int.tmod_eq_emod_of_nonneg hn0
    obtain ⟨q, hq⟩ : ∃ q : Nat, q = n / 10 := ⟨_, rfl⟩
    have hd : (n : Int).tdiv 10 = (q : Int) := by rw [Int.tdiv_eq_ediv_of_nonneg hn0]; omega
    have hd2 : (n : Int) / 10 = (q : Int) := by omega
    have HQ : Hid (q = n / 10) := hq
    clear hq
    have hcv := digit_conv n w
    have hb : Below w.heap.size w (w.alloc (.cells #[.int .u8 (48 + (n : Int) % 10)] 5)) := (Below.refl _ _).alloc (Nat.le_refl _) _
    by_cases hs : n < 10
    · have hs2 : ¬ (10 : Int) ≤ (n : Int) := by omega
      have HD : Hid (Fx.dec n = [Fx.dg (n % 10)]) := by show _ = _; rw [Fx.dec_small hs, Nat.mod_eq_of_lt hs]
      clear ih
      go_enter Tryz.func19, Tryz.ntmps19
      go_wp2_with fail
      go_ret
      exact ⟨_, rfl, by rw [HD.out], hb⟩
    · have hs2 : (10 : Int) ≤ (n : Int) := by omega
      have HD : Hid (Fx.dec n = Fx.dec q ++ [Fx.dg (n % 10)]) := by show _ = _; rw [HQ.out]; exact Fx.dec_big hs
      have HIH : Hid (∀ w, Calls Tryz.prog 19 #[.int .i64 (q : Int)] w fun e w' => ∃ t : ByteArray, e = .returned (.string t) ∧ t.data.toList = Fx.dec q ∧ t.size ≤ 20 ∧ Below w.heap.size w w') := fun w => by
        refine (ih q (by have := HQ.out; omega) (by have := HQ.out; omega) w).mono ?_
        rintro e w' ⟨t, h1, h2, h3⟩
        have := (Fx.dec_is q).2.2.2.2 9 (by have := HQ.out; omega)
        exact ⟨t, h1, h2, by rw [← list_size, h2]; omega, h3⟩
      clear ih
      go_enter Tryz.func19, Tryz.ntmps19
      go_wp2_with fail
      refine (HIH.out _).mono ?_
      rintro e w2 ⟨t, rfl, ht, hts, hb2⟩
      go_wp2_with fail
      go_ret
      exact ⟨_, rfl, by rw [concat_bytes, ht, HD.out], below_next hb hb2⟩
end Go.Proofs.YtjnpkdpljmkpiaaGreatDoor
namespace Go.Proofs.YtjnpkdpljmkpiaaGreatDoor
namespace R
open Go.RowKit Go.Shelf Tx
abbrev Tsp : Nat := 93
structure Gs (sp : Nat) (w : World) (v : Value) (w' : World) (v' : Value) : Prop where
  os : w'.os = w.os
  tape : w'.tape = w.tape
  output : w'.output = w.output
  size : w.heap.size ≤ w'.heap.size
  block : ∀ k, k < w.heap.size → k ≠ sp → v.ownBlock ≠ some k → w'.heap[k]? = w.heap[k]?
  own : ∀ g, v'.ownBlock = some g → v.ownBlock = some g ∨ w.heap.size ≤ g
section
variable {sp base : Nat} {w w1 w2 : World} {v v1 v2 : Value} {A : List (List Nd)}
theorem Gs.refl (sp : Nat) (w : World) (v : Value) : Gs sp w v w v := ⟨rfl, rfl, rfl, Nat.le_refl _, fun _ _ _ _ => rfl, fun _ h => Or.inl h⟩
theorem Gs.of_below (v : Value) (h : Below w.heap.size w w1) : Gs sp w v w1 v := ⟨h.os, h.tape, h.output, h.size, fun k hk _ _ => h.block k hk, fun _ h => Or.inl h⟩
theorem Gs.trans (h : Gs sp w v w1 v1) (k : Gs sp w1 v1 w2 v2) : Gs sp w v w2 v2 :=
  ⟨k.os.trans h.os, k.tape.trans h.tape, k.output.trans h.output, Nat.le_trans h.size k.size,
   fun i hi hs hn => (k.block i (Nat.lt_of_lt_of_le hi h.size) hs (fun e => by
     rcases h.own i e with q | q
     · exact hn q
     · omega)).trans (h.block i hi hs hn),
   fun g hg => by
     rcases k.own g hg with q | q
     · exact h.own g q
     · exact Or.inr (Nat.le_trans h.size q)⟩
theorem Gs.then (h : Gs sp w v w1 v1) (k : Below w1.heap.size w1 w2) : Gs sp w v w2 v1 := h.trans (Gs.of_below _ k)
theorem Gs.other {u u' : Value} (h : Gs sp w v w1 v1) (k : Gr w1 u w2 u') (hu : ∀ g, u.ownBlock = some g → w.heap.size ≤ g) : Gs sp w v w2 v1 :=
  ⟨k.os.trans h.os, k.tape.trans h.tape, k.output.trans h.output, Nat.le_trans h.size k.size,
   fun i hi hs hn => (k.block i (Nat.lt_of_lt_of_le hi h.size) (fun e => by have := hu i e; omega)).trans (h.block i hi hs hn), h.own⟩
theorem Gs.below {w0 : World} (h : Gs sp w v w1 v1) (hb : Below base w0 w) (hB : base ≤ w.heap.size) (hs : base ≤ sp) (hv : ∀ g, v.ownBlock = some g → base ≤ g) : Below base w0 w1 :=
  hb.trans ⟨h.os, h.tape, h.output, h.size, fun k hk => h.block k (by omega) (by omega) (fun e => by have := hv k e; omega)⟩
theorem Gs.keeps (h : Gs sp w v w1 v1) (hs : Blk w sp #[v] Tsp) (hr : RwE base w v A) {b T : Nat} {cs : Array Value} {fr : Nat × Nat} (hb : w.heap[b]? = some (.cells cs T fr)) (hT1 : T ≠ Tsp) (hT2 : T ≠ 30) : w1.heap[b]? = some (.cells cs T fr) := by
  refine (h.block b (Array.getElem?_eq_some_iff.1 hb).1 ?_ ?_).trans hb
  · rintro rfl
    unfold Blk at hs
    rw [hs] at hb
    cases hb; exact hT1 rfl
  · intro e
    obtain ⟨vs, h1, _⟩ := hr
    rcases h1.2 with ⟨rfl, _⟩ | ⟨g, cap, cur, rfl, _, hg, _⟩
    · cases e
    · cases e
      rw [hg] at hb
      cases hb; exact hT2 rfl
theorem Gs.blk (h : Gs sp w v w1 v1) (hs : Blk w sp #[v] Tsp) (hr : RwE base w v A) {b T : Nat} {cs : Array Value} (hb : Blk w b cs T) (hT1 : T ≠ Tsp) (hT2 : T ≠ 30) : Blk w1 b cs T := h.keeps hs hr hb hT1 hT2
theorem Gs.row (h : Gs sp w v w1 v1) (hs : Blk w sp #[v] Tsp) (hr : RwE base w v A) {b2 e size n : Nat} {u : Value} {xs : List Value} (ho : w.ownsRow b2 e size u n xs) (hT1 : e ≠ Tsp) (hT2 : e ≠ 30) : w1.ownsRow b2 e size u n xs := by
  refine ⟨ho.1, ?_⟩
  rcases ho.2 with h0 | ⟨g, cap, cur, rfl, hb, hg, rest⟩
  · exact Or.inl h0
  · exact Or.inr ⟨g, cap, cur, rfl, hb, h.keeps hs hr hg hT1 hT2, rest⟩
theorem Gs.ownE (h : Gs sp w v w1 v1) (hs : Blk w sp #[v] Tsp) (hr : RwE base w v A) {b2 : Nat} {u : Value} {e : List Nd} (ho : OwnE b2 w u e) : OwnE b2 w1 u e := h.row hs hr ho (by decide) (by decide)
theorem Gs.rowI (h : Gs sp w v w1 v1) (hs : Blk w sp #[v] Tsp) (hr : RwE base w v A) {b2 : Nat} {u : Value} {l : List Int} (ho : RowI b2 w u l) : RowI b2 w1 u l := by
  rcases ho with ho | ⟨g, h1, h2, h3⟩
  · exact Or.inl ho
  · exact Or.inr ⟨g, h1, h2, h.blk hs hr h3 (by decide) (by decide)⟩
theorem Gs.rwE (h : Gs sp w v w1 v1) (hs : Blk w sp #[v] Tsp) (hr : RwE base w v A) {b2 : Nat} {u : Value} {L : List (List Nd)} (ho : RwE b2 w u L) (hd : ∀ g, u.ownBlock = some g → v.ownBlock ≠ some g) :
    RwE b2 w1 u L ∧ ∀ g, u.ownBlock = some g → v1.ownBlock ≠ some g := by
  have hlow := ho.low
  obtain ⟨vs, h1, h2⟩ := ho
  refine ⟨⟨vs, row_kept h1 (fun g hg he hl => ?_), fun i x e hx he => h.ownE hs hr (h2 i x e hx he)⟩, fun g hg e => ?_⟩
  · refine h.block g hl ?_ (hd g he)
    rintro rfl
    rcases h1.2 with ⟨rfl, _⟩ | ⟨g', cap, cur, rfl, _, hg', _⟩
    · cases he
    · cases he
      unfold Blk at hs
      rw [hs] at hg'
      cases hg'
  · rcases h.own g e with q | q
    · exact hd g hg q
    · have := (hlow g hg).2; omega
end
theorem rsetSp {base sp : Nat} {w : World} {v y u : Value} {A : List (List Nd)} (h : RwE base w v A) (hs : Blk w sp #[u] Tsp) : RwE base (w.setCell ⟨sp, 0, none⟩ y) v A := by
  have key : ∀ {b e size n : Nat} {u' : Value} {xs : List Value}, w.ownsRow b e size u' n xs → e ≠ Tsp → (w.setCell ⟨sp, 0, none⟩ y).ownsRow b e size u' n xs := fun {b e size n u' xs} ho he => by
    refine row_kept ho fun g hg hu hl => Below.heap_setCell _ _ _ _ ?_
    show g ≠ sp
    rintro rfl
    rcases ho.2 with ⟨rfl, _⟩ | ⟨g', cap, cur, rfl, _, hg', _⟩
    · cases hu
    · cases hu
      unfold Blk at hs; rw [hs] at hg'
      cases hg'; exact he rfl
  obtain ⟨vs, h1, h2⟩ := h
  exact ⟨vs, key h1 (by decide), fun i x e hx he => key (h2 i x e hx he) (by decide)⟩
theorem atom_more {base sp : Nat} {w4 w1 : World} {av xv : Value} {A : List (List Nd)} {X : List Nd} {vs : List Value} {g cap al : Nat} (hal : A.length = al) (hs : Blk w4 sp #[av] Tsp) (hrow : w4.ownsRow base 30 1 av al vs)
    (hvs : ∀ (i : Nat) (u : Value) (e : List Nd), vs[i]? = some u → A[i]? = some e → OwnE base w4 u e) (hx : OwnE base w4 xv X) (hne : av.ownBlock ≠ some sp)
    (hown : w1.ownsRow base 30 1 (.slice (some ⟨g, 0, none⟩) (al + 1) cap) (al + 1) (vs ++ [xv])) (hgrow : ((w4.alloc (.cells #[xv] 30)).drew).grownBy w1 av.ownBlock) (hat : av.ownBlock = some g ∨ g = w4.heap.size + 1) :
    Blk (w1.setCell ⟨sp, 0, none⟩ (.slice (some ⟨g, 0, none⟩) (al + 1) cap)) sp #[.slice (some ⟨g, 0, none⟩) (al + 1) cap] Tsp ∧ RwE base (w1.setCell ⟨sp, 0, none⟩ (.slice (some ⟨g, 0, none⟩) (al + 1) cap)) (.slice (some ⟨g, 0, none⟩) (al + 1) cap) (A ++ [X]) ∧
      Gs sp w4 av (w1.setCell ⟨sp, 0, none⟩ (.slice (some ⟨g, 0, none⟩) (al + 1) cap)) (.slice (some ⟨g, 0, none⟩) (al + 1) cap) := by
  have hgrow2 : (w4.alloc (.cells #[xv] 30)).grownBy w1 av.ownBlock := ⟨hgrow.os, hgrow.tape, hgrow.output, hgrow.size, hgrow.block⟩
  have hlt := hs.lt
  have hs1 : Blk w1 sp #[av] Tsp := by
    unfold Blk
    rw [hgrow2.block sp (by show sp < (w4.heap.push _).size; simp; omega) (fun e => hne e.symm)]
    exact (Below.heap_alloc _ _ _ hlt).trans hs
  have hr := RwE.push hal hrow hvs hx hown hgrow2
  have hgr : Gr w4 av w1 (.slice (some ⟨g, 0, none⟩) (al + 1) cap) := gr_append hgrow2 hat
  refine ⟨?_, rsetSp hr hs1, ⟨hgr.os, hgr.tape, hgr.output, ?_, fun k hk hks hn => ?_, hgr.own⟩⟩
  · exact hs1.set1 _
  · have := hgr.size; simp [World.setCell]; omega
  · rw [Below.heap_setCell _ _ _ _ (by show k ≠ sp; exact hks)]
    exact hgr.block k hk hn
set_option maxHeartbeats 1000000 in
theorem rIs_any (op : Int) (w : World) : Calls Tryz.prog 23 #[.int .i64 op] w fun r w' => r = .returned (.bool (Ux.isLogic op)) ∧ w' = w := by
  have HF : Hid (Ux.isLogic op = ((op == 2) || (op == 4) || (op == 6) || (op == 7) || (op == 8) || (op == 9) || (op == 26))) := by
    show _ = _
    unfold Ux.isLogic
    rw [Bool.eq_iff_iff]; simp; omega
  go_enter Tryz.func23, Tryz.ntmps23
  go_wp2_with fail
  all_goals
    go_ret
    exact ⟨ret_bool (by rw [HF.out] <;> simp_all), rfl⟩
set_option maxRecDepth 100000 in
set_option maxHeartbeats 1000000 in
theorem find_any (A : List (List Nd)) (x : List Nd) (v : Value) (xv : Value) (w : World) (hl : A.length ≤ 1000000) (hv : Sg 1 IsL w v A) (hxl : x.length ≤ 1000000000) (hA : ∀ y ∈ A, y.length ≤ 1000000000) (hx : IsE w xv x) :
    Calls Tryz.prog 94 #[v, xv] w fun r w' => r = .returned (.int .i64 (firstI (fun y => decide (x = y)) A)) ∧ ∃ k, w' = w.drewN k := by
  obtain ⟨a, c, rfl, hc, hcell⟩ := hv.form keepsL
  obtain ⟨xa, xc, hxv, -, -⟩ := hx.form
  subst hxv
  obtain ⟨n, hn⟩ : ∃ n, n = A.length := ⟨_, rfl⟩
  obtain ⟨xl, hxl2⟩ : ∃ xl, xl = x.length := ⟨_, rfl⟩
  rw [← hn] at hc hl ⊢
  rw [← hxl2] at hx ⊢
  have HN := Lib.hid hn
  have HC := Lib.hid hcell
  have HX := Lib.hid hx
  have HXL := Lib.hid hxl2
  clear hn hv hcell hx hxl2
  go_enter Tryz.func94, Tryz.ntmps94
  go_wp2_with fail
  go_loopw [5] (fun i wr => ∃ k : Nat, i = .int .i64 k ∧ k ≤ n ∧ (A.take k).any (fun y => decide (x = y)) = false ∧ ∃ q, wr = w.drewN q) (fun i _ => n - (intOf i).toNat)
  case atStart => exact ⟨0, rfl, Nat.zero_le _, rfl, 0, rfl⟩
  case round =>
    obtain ⟨k, rfl, hk, hno, q, hW⟩ := hrel
    have hbw : Below w.heap.size w wr := by rw [hW]; exact below_drawn (Below.refl _ _) q
    by_cases hlt : k < n
    · obtain ⟨y, hi⟩ : ∃ y, A[k]? = some y := ⟨_, List.getElem?_eq_getElem (by have := HN.out; omega)⟩
      obtain ⟨b, o, cs, rfl, ⟨u, rfl, hu⟩, g⟩ := HC.out wr hbw k y hi
      have cx := g 0 _ rfl
      simp only [Nat.mul_one, Nat.add_zero] at cx
      have hkn : (k : Int) < (n : Int) := by omega
      have hk0 : (0 : Int) ≤ (k : Int) := by omega
      have hf := Same_any y x u (.slice xa xl xc) wr (hA y (List.mem_of_getElem? hi)) hxl hu (Sl.below HX.out hbw)
      obtain ⟨d, hd⟩ : ∃ d, d = decide (x = y) := ⟨_, rfl⟩
      have hd2 : decide (y = x) = d := by rw [hd]; exact decide_eq_decide.2 eq_comm
      rw [hd2] at hf
      have HD := Lib.hid hd
      have HI := Lib.hid hi
      have HNO := Lib.hid hno
      have HW := Lib.hid hW
      obtain ⟨ua, uc, rfl, -, -⟩ := hu.form
      clear g hi hno hu hbw hd hd2 hW
      go_wp2_with fail
      refine hf.mono ?_
      rintro r w1 ⟨rfl, q2, hq2⟩
      have HQ2 := Lib.hid hq2
      clear hf hq2
      cases d
      · have HF : Hid ((A.take (k + 1)).any (fun y => decide (x = y)) = false) := by show _ = _; rw [any_upTo _ HI.out, HNO.out, ← HD.out]; rfl
        go_wp2_with fail
        go_roundw
        case rel => exact ⟨k + 1, by go_num, by omega, HF.out, q + q2, by rw [HQ2.out, HW.out, World.drewN_drewN]⟩
        case measure => simp [intOf]; omega
      · have HF : Hid (firstI (fun y => decide (x = y)) A = (k : Int)) := firstI_at HI.out HD.out.symm HNO.out
        go_wp2_with fail
        go_ret
        exact ⟨by rw [HF.out]; rfl, q + q2, by rw [HQ2.out, HW.out, World.drewN_drewN]⟩
    · have hke : k = n := by omega
      subst hke
      have HF : Hid (firstI (fun y => decide (x = y)) A = -1) := by
        rw [List.take_of_length_le (by have := HN.out; omega)] at hno
        exact firstI_none hno
      have HW := Lib.hid hW
      clear hno hW hbw
      go_wp2_with fail
      go_ret
      exact ⟨by rw [HF.out]; rfl, q, HW.out⟩
end R
end Go.Proofs.YtjnpkdpljmkpiaaGreatDoor
