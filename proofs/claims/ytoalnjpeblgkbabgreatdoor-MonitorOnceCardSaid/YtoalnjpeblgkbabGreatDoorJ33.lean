/- The walks: Own. Not built yet. -/
import Derived.Deep.RegionHeld3
import Derived.IntWalk
import Derived.StillTailTactics
import Derived.Lib.Hide
import Derived.Deep.Cut
import Derived.Deep.RegionLawGrows
import Derived.Test.YtoalnjpeblgkbabGreatDoorJ32
set_option linter.unusedVariables false
set_option linter.unusedSimpArgs false
namespace Go.Proofs.YtoalnjpeblgkbabGreatDoor
open Go.RowKit
theorem step_appE {P:Program} {w:World} {ops:Array Oper} {o:Oper} {a:Act} {K:Act→World→Prop} {Q:Exit→Act→World→Prop} {E:Prop} {t e size bytes:Nat} (R:RowTy P t e size bytes) (hgd:o.guard=none) (s x:Operand)
  (ho:o.op=.call { callee:=.builtin .append,args:=#[s,x],argTypes:=#[t,t] })
  (base:Nat) (v:Value) (n:Nat) (xs:List Value) (hs:a.eval s=v) (hown:w.ownsRow base e size v n xs)
  (ad:Addr) (c:Nat) (news:List Value) (hx:a.eval x=.slice (some ad) 1 c) (hl:news.length=size) (hnews:∀ j u,news[j]?=some u→w.cell? (ad.add j)=some u) (h1:∀ u∈news,u.oneCell'=true)
  (hn:(n+1) * (bytes+1)≤140737488355328) (hbase:base≤w.heap.size) (H:Nat) (hH:w.heap.size=H)
  (h:∀ g cap w',w'.ownsRow base e size (.slice (some ⟨g,0,none⟩) (n+1) cap) (n+1) (xs++news)→w.grownBy w' v.ownBlock→(v.ownBlock=some g∨g=H)→g<w'.heap.size→K (a.put o.dst (.slice (some ⟨g,0,none⟩) (n+1) cap)) w') :
  if Region.wanted o (yielded ops a.tmps)=true then Oper.wp P o a w K Q else E:=by
 obtain⟨i,z,hi,hz,hsize,hby,hzs⟩:=R.ex
 have hb:(n+1) * bytes≤140737488355328:=Nat.le_trans (Nat.mul_le_mul_left _ (by omega)) hn
 have hm:n+1≤maxLen:=by
  have:(n+1) * 1≤(n+1) * (bytes+1):=Nat.mul_le_mul_left _ (by omega)
  unfold maxLen;omega
 exact step_append_lies _ hgd s x t ho base e i z size bytes R.ht hi hz hsize hby hzs R.pos v n xs hs hown ad 1 c news hx (by rw[hl];omega) hnews h1 (by omega) hm hb hbase H hH h
set_option maxRecDepth 100000 in
set_option maxHeartbeats 1000000 in
theorem Own_any (l : List Chk) (hl : l.length ≤ 1000) (v : Value) (w : World) (hv : Sl chkC 4 w v l) :
    Calls Tryz.prog 7 #[v] w fun e w' => ∃ u, e = .returned u ∧ Below w.heap.size w w' ∧ Sl chkC 4 w' u l := by
  obtain ⟨pa, ca, rfl, hcl, hca⟩ := hv.form
  clear hv
  obtain ⟨n, hn⟩ : ∃ n, n = l.length := ⟨_, rfl⟩
  rw [← hn] at hcl hl ⊢
  have HN := Lib.hid hn
  have HC := Lib.hid hca
  clear hca hn
  go_enter Tryz.func7, Tryz.ntmps7
  go_wp2_with fail
  go_loopw [3, 4] (fun out iv wr => ∃ t : Nat, iv = .int .i64 t ∧ t ≤ n ∧ Below w.heap.size w wr ∧ wr.ownsRow w.heap.size 53 4 out t ((l.take t).flatMap chkC)) (fun _ iv _ => n - (intOf iv).toNat)
  case atStart => exact ⟨0, rfl, Nat.zero_le _, Below.refl _ _, World.ownsRow_nil _ _ _ _⟩
  case round =>
    obtain ⟨t, rfl, ht, hB, hrow⟩ := hrel
    by_cases hlt : t < n
    · obtain ⟨c, hc⟩ : ∃ c, l[t]? = some c := ⟨_, List.getElem?_eq_getElem (by have := HN.out; omega)⟩
      obtain ⟨bb, oo, rfl, hcell⟩ := HC.out wr hB t c hc
      have c0 := hcell 0 (.int .i64 c.kind) rfl
      have c1 := hcell 1 (.string c.name) rfl
      have c2 := hcell 2 (.int .i64 c.holds) rfl
      have c3 := hcell 3 (.int .i64 c.active) rfl
      simp only [Nat.add_zero] at c0
      have htn : (t : Int) < (n : Int) := by omega
      have ht0 : (0 : Int) ≤ (t : Int) := by omega
      have hsz := hB.size
      have HK := Lib.hid hc
      have HB := Lib.hid hB
      clear hcell hc hB
      have K0 : wr.cell? ⟨bb, oo + t * 4, none⟩ = some (.int .i64 c.kind) ∧ wr.cell? ⟨bb, oo + t * 4 + 1, none⟩ = some (.string c.name) ∧ wr.cell? ⟨bb, oo + t * 4 + 2, none⟩ = some (.int .i64 c.holds) ∧ wr.cell? ⟨bb, oo + t * 4 + 3, none⟩ = some (.int .i64 c.active) := ⟨c0, c1, c2, c3⟩
      have hbw : bb < w.heap.size := by
        obtain ⟨b2, o2, e2, h2⟩ := HC.out w (Below.refl _ _) t c HK.out
        cases e2
        exact World.block_lt_of_cell? w _ (h2 0 _ rfl)
      have KK : ∀ W : World, W.heap[bb]? = wr.heap[bb]? → W.cell? ⟨bb, oo + t * 4, none⟩ = some (.int .i64 c.kind) ∧ W.cell? ⟨bb, oo + t * 4 + 1, none⟩ = some (.string c.name) ∧ W.cell? ⟨bb, oo + t * 4 + 2, none⟩ = some (.int .i64 c.holds) ∧ W.cell? ⟨bb, oo + t * 4 + 3, none⟩ = some (.int .i64 c.active) := fun W h =>
        ⟨(World.cell?_of_block (w := wr) (a := ⟨bb, oo + t * 4, none⟩) h).trans c0, (World.cell?_of_block (w := wr) (a := ⟨bb, oo + t * 4 + 1, none⟩) h).trans c1, (World.cell?_of_block (w := wr) (a := ⟨bb, oo + t * 4 + 2, none⟩) h).trans c2, (World.cell?_of_block (w := wr) (a := ⟨bb, oo + t * 4 + 3, none⟩) h).trans c3⟩
      have hown0 := hrow.lt
      go_upto_region 5 with fail
      have KG : ∀ w4, (wr.alloc (.cells #[.int .i64 c.kind, .string c.name, .int .i64 c.holds, .int .i64 c.active] 53)).drew.grownBy w4 (Value.ownBlock u3) → w4.heap[bb]? = wr.heap[bb]? := fun w4 hg => (hg.block bb (by simp; omega) (fun e => by have := (hown0 bb e.symm).1; omega)).trans (Below.heap_alloc _ _ _ (by omega))
      clear c0 c1 c2 c3
      go_region_held3 (fun w' => w'.cell? ⟨bb, oo + t * 4, none⟩ = some (.int .i64 c.kind) ∧ w'.cell? ⟨bb, oo + t * 4 + 1, none⟩ = some (.string c.name) ∧ w'.cell? ⟨bb, oo + t * 4 + 2, none⟩ = some (.int .i64 c.holds) ∧ w'.cell? ⟨bb, oo + t * 4 + 3, none⟩ = some (.int .i64 c.active))
        (first | exact K4 | exact KK _ rfl | exact KK _ (Below.heap_alloc _ _ _ (by omega)))
        (first
          | (refine step_appE rowC (by rfl) _ _ (by rfl) w.heap.size u3 t ((l.take t).flatMap chkC) (by rfl) (World.ownsRow.alloc hrow _) ⟨wr.heap.size, 0, none⟩ 1 (chkC c) (by rfl) rfl (World.news_of_block (heap_alloc_new _ _)) (by simp [chkC, Value.oneCell']) (by omega) (by simp; omega) (wr.heap.size + 1) (by simp) ?_
             intro g cap w4 hown hgrow hat hlt4
             have K4 := KK w4 (KG w4 hgrow)))
      have hB4 : Below w.heap.size w w4 := by
        have h1 : Below w.heap.size w (wr.alloc (.cells #[.int .i64 c.kind, .string c.name, .int .i64 c.holds, .int .i64 c.active] 53)).drew := (HB.out.alloc HB.out.size _).drew
        exact h1.grown hgrow (by show _ ≤ (wr.heap.push _).size; simp; omega) (fun k hk => (hown0 k hk).1)
      have hl4 : (l.take t).flatMap chkC ++ chkC c = (l.take (t + 1)).flatMap chkC := by rw [List.take_add_one, HK.out]; simp
      rw [hl4] at hown
      have HO4 := Lib.hid hown
      have HB4 := Lib.hid hB4
      clear KG KK K4 K0 hgrow hat hlt4 hown hB4 hl4 hown0 hrow
      go_wp2_with fail
      go_roundw
      case rel => exact ⟨t + 1, by go_num, by omega, HB4.out, HO4.out⟩
      case measure => simp [intOf]; omega
    · have hte : t = n := by omega
      subst hte
      have HO : Hid (Sl chkC 4 wr u3 l) := by
        show Sl _ _ _ _ _
        have h1 : l.take t = l := List.take_of_length_le (by have := HN.out; omega)
        rw [h1] at hrow
        exact Sl.own chkC_len hrow HN.out.symm
      have HB := Lib.hid hB
      clear hrow hB
      go_wp2_with fail
      go_ret
      exact ⟨_, rfl, HB.out, HO.out⟩
end Go.Proofs.YtoalnjpeblgkbabGreatDoor
