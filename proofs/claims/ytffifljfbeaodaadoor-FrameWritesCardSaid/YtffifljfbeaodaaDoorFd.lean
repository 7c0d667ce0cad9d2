/- The words of a line; a word read. -/
import Derived.Test.YtffifljfbeaodaaDoorFc
namespace Go.Proofs.YtffifljfbeaodaaDoor
open Go.RowKit Go.Shelf

/-- The words, as strings. -/
def wordsB (s : ByteArray) : List ByteArray := (Lib.splitB ⟨#[32]⟩ 0 (Lib.countB s ⟨#[32]⟩) s).filter (fun x => !x.data.toList.isEmpty)
theorem wordsB_data (s : ByteArray) : (wordsB s).map (·.data.toList) = Fx.words s.data.toList := by
  unfold wordsB
  have h : ∀ l : List ByteArray, (l.filter (fun x => !x.data.toList.isEmpty)).map (·.data.toList) = (l.map (·.data.toList)).filter (fun w => !w.isEmpty) := by
    intro l; induction l with
    | nil => rfl
    | cons a l ih =>
      simp only [List.filter_cons, List.map_cons]
      split <;> simp_all
  rw [h, Lib.splitB_data]
  exact Fx.split_words s.data.toList

theorem emptyGives (x : ByteArray) (W : World) : FnGives Tryd.prog 33 #[] #[.string x] (.bool x.data.toList.isEmpty) W := by
  show Calls Tryd.prog _ #[.string x] W _
  refine (empty_any x W).mono ?_
  rintro e w' ⟨h, rfl⟩
  exact ⟨h, 0, rfl⟩
theorem cells_get (enc : ByteArray → Value) (d : Array ByteArray) (j : Nat) (h : j < d.size) : (d.map enc)[j]? = some (enc d[j]!) := by
  rw [Array.getElem?_map, Array.getElem?_eq_getElem h, getElem!_pos d j h]; rfl

set_option maxRecDepth 100000 in
set_option maxHeartbeats 1000000 in
theorem words_any (s : ByteArray) (hs : s.size ≤ 100000) (w : World) (G : Gl w) :
    Calls Tryd.prog 16 #[.string s] w fun e w' => ∃ v, e = .returned v ∧ Below w.heap.size w w' ∧ Sl strC 1 w' v (wordsB s) := by
  have hsp := Tryd.strings_Split_shaped s ⟨#[32]⟩ w G.shaped (by omega) (by decide)
  obtain ⟨N, hN⟩ : ∃ N, N = Lib.countB s ⟨#[32]⟩ + 1 := ⟨_, rfl⟩
  obtain ⟨d, hd⟩ : ∃ d, d = (Lib.splitB ⟨#[32]⟩ 0 (Lib.countB s ⟨#[32]⟩) s).toArray := ⟨_, rfl⟩
  have hcnt : Lib.countB s ⟨#[32]⟩ ≤ s.size := Lib.countB_le ⟨#[32]⟩ (by decide) s.size s (Nat.le_refl _)
  have hlen : (Lib.splitB ⟨#[32]⟩ 0 (Lib.countB s ⟨#[32]⟩) s).length = Lib.countB s ⟨#[32]⟩ + 1 := Lib.splitB_all ⟨#[32]⟩ (by decide) 0 _ s rfl
  have hds : d.size = N := by rw [hd, hN]; simpa using hlen
  have hcs : ((Lib.splitB ⟨#[32]⟩ 0 (Lib.countB s ⟨#[32]⟩) s).map Value.string).toArray = d.map Value.string := by rw [hd]; simp
  have hwb : wordsB s = d.toList.filter (fun x => !x.data.toList.isEmpty) := by rw [hd]; rfl
  rw [hcs, ← hN] at hsp
  obtain ⟨w1, hw1⟩ : ∃ w1, w1 = w.alloc (.cells (d.map Value.string) 9) := ⟨_, rfl⟩
  rw [← hw1] at hsp
  have hb1 : Below w.heap.size w w1 := by rw [hw1]; exact (Below.refl _ _).alloc (Nat.le_refl _) _
  have hB1 : w1.heap[w.heap.size]? = some (.cells (d.map Value.string) 9 (0, 0)) := by rw [hw1]; exact heap_alloc_new w _
  have hH : Sort.Holds Value.string w1 w.heap.size 0 d := fun j hj => by
    refine ⟨?_, by simp [World.frozen?, hB1]⟩
    rw [Nat.zero_add, cell_of_row w1 w.heap.size j _ 9 (0, 0) hB1]
    exact cells_get Value.string d j hj
  have eg : ∀ args w, (callFunc 33 args).run Tryd.prog w = .ok (.enter 33 args) w := enters_of Tryd.func33 (by kernel_rfl) rfl
  have hdf := Tryd.slices_DeleteFunc Value.string (fun _ => rfl) (fun x => x.data.toList.isEmpty) 33 #[] eg ByteArray.empty (fun _ => by kernel_rfl) w.heap.size 0 N d w1 (fun W x _ => emptyGives x W) (fun _ _ _ x _ => emptyGives x _) hH (by omega) (by omega)
  rw [hds] at hdf
  obtain ⟨r, hr⟩ : ∃ r, r = d.toList.filter (fun x => !x.data.toList.isEmpty) := ⟨_, rfl⟩
  rw [← hr] at hdf hwb
  have hrl : r.length ≤ N := by rw [hr, ← hds]; simpa using List.length_filter_le _ d.toList
  obtain ⟨D, hD⟩ : ∃ D : Array ByteArray, D = (r ++ List.replicate (N - r.length) ByteArray.empty).toArray := ⟨_, rfl⟩
  rw [← hD] at hdf
  have hDs : D.size = d.size := by rw [hD, hds]; simp; omega
  have key : ∀ q, Below w.heap.size w (Sort.putRow Value.string (Sort.ahead w1 q) w.heap.size 0 D) ∧ Sl strC 1 (Sort.putRow Value.string (Sort.ahead w1 q) w.heap.size 0 D) (.slice (some ⟨w.heap.size, 0, none⟩) r.length N) r := by
    intro q
    refine ⟨⟨hb1.os, hb1.tape, hb1.output, by rw [Sort.size_putRow]; exact hb1.size, fun k hk => ?_⟩, Or.inr ⟨w.heap.size, 0, N, rfl, hrl, ?_, fun i x hi j u hu => ?_⟩⟩
    · have : (Sort.putRow Value.string (Sort.ahead w1 q) w.heap.size 0 D).heap[k]? = w1.heap[k]? := by
        unfold Sort.putRow Sort.mapBlock
        simp only [Sort.ahead]
        rw [Array.getElem?_modify, if_neg (by omega)]
      rw [this]; exact hb1.block k hk
    · rw [Sort.size_putRow]; exact (Array.getElem?_eq_some_iff.1 hB1).1
    · cases j with
      | succ j => simp [strC] at hu
      | zero =>
        simp [strC] at hu; subst hu
        have hil : i < r.length := (List.getElem?_eq_some_iff.1 hi).1
        have h0 : Sort.Holds Value.string (Sort.ahead w1 q) w.heap.size 0 d := hH
        have := Sort.cell?_putRow Value.string (Sort.ahead w1 q) w.heap.size 0 d D h0 hDs i (by rw [hDs, hds]; omega)
        rw [show 0 + i * 1 + 0 = 0 + i by omega, this]
        congr 2
        have hiD : i < D.size := by rw [hDs, hds]; omega
        rw [getElem!_pos D i hiD]
        have e : D[i]? = some x := by rw [hD]; simp; rw [List.getElem?_append_left hil]; exact hi
        rw [Array.getElem?_eq_getElem hiD] at e
        exact Option.some.inj e
  rw [hwb]
  obtain ⟨PR, hPR⟩ : ∃ PR : Nat → World, PR = fun q => Sort.putRow Value.string (Sort.ahead w1 q) w.heap.size 0 D := ⟨_, rfl⟩
  have hdf' : Calls Tryd.prog 31 #[.slice (some ⟨w.heap.size, 0, none⟩) N N, .func (.func 33) #[] #[]] w1 fun e w' => e = .returned (.slice (some ⟨w.heap.size, 0, none⟩) r.length N) ∧ ∃ q, w' = PR q :=
    hdf.mono (by rintro e w' ⟨h1, q, h2⟩; exact ⟨h1, q, by rw [h2, hPR]⟩)
  have HK : Hid (∀ q, Below w.heap.size w (PR q) ∧ Sl strC 1 (PR q) (.slice (some ⟨w.heap.size, 0, none⟩) r.length N) r) := fun q => by rw [hPR]; exact key q
  clear hw1 hN hcnt hds hPR key hdf hH hB1 hb1 eg hd hcs hwb hr hD hDs hlen
  generalize r.length = R at hdf' HK hrl ⊢
  go_enter Tryd.func16, Tryd.ntmps16
  go_wp2_with fail
  refine hsp.mono ?_
  rintro e w2 ⟨rfl, rfl⟩
  go_wp2_with fail
  refine hdf'.mono ?_
  rintro e w3 ⟨rfl, q, rfl⟩
  go_wp2_with fail
  go_ret
  exact ⟨_, rfl, (HK.out q).1, (HK.out q).2⟩
end Go.Proofs.YtffifljfbeaodaaDoor
