/- frame.Write: the walk. -/
import Derived.Test.YtffifljfbeaodaaDoorFm
namespace Go.Proofs.YtffifljfbeaodaaDoor
open Go.RowKit Go.Shelf

theorem bld_below {T e : TypeId} {B b : Nat} {bs : List Value} {w w' : World} (h : Lib.IsBuilderF T e B b bs w) (hb : Below w.heap.size w w') : Lib.IsBuilderF T e B b bs w' := by
  have key : ∀ p, Lib.BuilderAtF T e B b p bs w → Lib.BuilderAtF T e B b p bs w' := fun p h => by
    have hlt := h.lt
    obtain ⟨hB, v, hbl, hown, hne⟩ := h
    exact ⟨hB, v, (hb.block b hlt).trans hbl, hown.kept (below_grow hb none) (by cases hv : v.ownBlock <;> simp), hne⟩
  exact h.elim (fun x => Or.inl (key _ x)) (fun x => Or.inr (key _ x))
theorem itoa_len {v : Int} (h : Fx.fits v = true) : (Fx.itoa v).length ≤ 11 := by
  have := Fx.text_len (t := 2) (n := v) (by unfold Fx.may; rw [h]; rfl)
  simpa [Fx.text] using this

def wrOk (T : List Int) (R : List (List Int)) : Bool := decide (T.length ≤ 200) && Fx.writeOk T R
def wrText (T : List Int) (R : List (List Int)) : Fx.Bs := if wrOk T R then Fx.writeText T R else []
def wrEr (T : List Int) (R : List (List Int)) : Int := if wrOk T R then 0 else 1
def WriteRes (T : List Int) (R : List (List Int)) (w : World) (e : Ending) (w' : World) : Prop :=
  ∃ (s : ByteArray) (er : Int), e = .returned (.tuple #[.string s, .int .i64 er]) ∧ Below w.heap.size w w' ∧ s.data.toList = wrText T R ∧ er = wrEr T R
theorem wr_no {T : List Int} {R : List (List Int)} {w w' : World} (h : wrOk T R = false) (hb : Below w.heap.size w w') : WriteRes T R w (.returned (.tuple #[.string ⟨#[]⟩, .int .i64 1])) w' :=
  ⟨_, _, rfl, hb, by unfold wrText; rw [h]; rfl, by unfold wrEr; rw [h]; rfl⟩
theorem wr_row_no {T : List Int} {R : List (List Int)} {j : Nat} {r : List Int} (hr : R[j]? = some r) (h : Fx.rowOk T r = false) : wrOk T R = false := by
  have : R.all (Fx.rowOk T) = false := by
    rw [Bool.eq_false_iff]; intro q
    have := List.all_eq_true.1 q r (List.mem_of_getElem? hr)
    rw [h] at this; cases this
  unfold wrOk Fx.writeOk; rw [this]; simp

set_option maxRecDepth 100000 in
set_option maxHeartbeats 4000000 in
theorem Write_any (T : List Int) (R : List (List Int)) (vt vr : Value) (hTl : T.length ≤ 1000000) (hRl : R.length ≤ 1000000) (w : World) (G : Gl w) (ht : Sl intC 1 w vt T) (hr : Rs w vr R) :
    Calls Tryd.prog 13 #[vt, vr] w (WriteRes T R w) := by
  obtain ⟨ta, tc, rfl, htc, hcell⟩ := ht.form
  obtain ⟨ra, rc, rfl, hrc, hrcell⟩ := hr.form
  clear ht hr
  obtain ⟨n, hn⟩ : ∃ n, n = T.length := ⟨_, rfl⟩
  obtain ⟨m, hm⟩ : ∃ m, m = R.length := ⟨_, rfl⟩
  rw [← hn] at htc hTl ⊢
  rw [← hm] at hrc hRl ⊢
  have HN : Hid (n = T.length) := hn
  have HM : Hid (m = R.length) := hm
  by_cases h200 : n ≤ 200
  · have h200' : (n : Int) ≤ 200 := by omega
    have HOK : Hid (wrOk T R = Fx.writeOk T R) := by show _ = _; unfold wrOk; rw [← hn, decide_eq_true h200]; rfl
    clear hn hm
    go_enter Tryd.func13, Tryd.ntmps13
    go_wp2_with fail
    go_loopw [18] (fun i wr => ∃ j : Nat, i = .int .i64 j ∧ j ≤ n ∧ wr = w ∧ (T.take j).all Fx.typeOk = true) (fun i _ => n - (intOf i).toNat)
    case atStart => exact ⟨0, rfl, Nat.zero_le _, rfl, by simp⟩
    case round =>
      obtain ⟨j, rfl, hj, hW, hall⟩ := hrel
      subst hW
      by_cases hlt : j < n
      · obtain ⟨x, hx⟩ : ∃ x, T[j]? = some x := ⟨_, List.getElem?_eq_getElem (by have := HN.out; omega)⟩
        have hjm : (j : Int) < (n : Int) := by omega
        have hj0 : (0 : Int) ≤ (j : Int) := by omega
        obtain ⟨xb, xo, rfl, hxc⟩ := hcell wr (Below.refl _ _) j x hx
        have cx := hxc 0 _ rfl
        simp only [Nat.mul_one, Nat.add_zero] at cx
        have HX : Hid (T[j]? = some x) := hx
        clear hxc hcell hrcell hx
        by_cases hok : Fx.typeOk x = true
        · have HA : Hid ((T.take (j + 1)).all Fx.typeOk = true) := by
            show _ = _
            rw [List.take_add_one, HX.out]; simp [List.all_append, hall, hok]
          have hor : (x != 1) = false ∨ ((x != 1) = true ∧ (x != 2) = false) := by
            unfold Fx.typeOk at hok
            by_cases h : x = 1
            · exact Or.inl (by simp [h])
            · simp [h] at hok; exact Or.inr ⟨by simpa using h, by simp [hok]⟩
          clear hall hok
          rcases hor with h1 | ⟨h1, h2⟩
          all_goals
            go_wp2_with fail
            go_roundw
            case rel => exact ⟨j + 1, by go_num, by omega, by trivial, HA.out⟩
            case measure => simp [intOf]; omega
        · have HF : Hid (wrOk T R = false) := by
            show _ = _
            rw [HOK.out]
            have : T.all Fx.typeOk = false := by
              rw [Bool.eq_false_iff]; intro q
              exact hok (List.all_eq_true.1 q x (List.mem_of_getElem? HX.out))
            unfold Fx.writeOk; rw [this]; rfl
          have h1 : (x != 1) = true := by
            simp only [bne_iff_ne]; rintro rfl; exact hok rfl
          have h2 : (x != 2) = true := by
            simp only [bne_iff_ne]; rintro rfl; exact hok rfl
          clear hall hok
          go_wp2_with fail
          go_ret2
          exact wr_no HF.out (Below.refl _ _)
      · have hje : j = n := by omega
        subst hje
        have HTY : Hid (T.all Fx.typeOk = true) := by
          show _ = _
          rwa [List.take_of_length_le (by have := HN.out; omega)] at hall
        have hB0 := bld_new wr
        have hBa : Below wr.heap.size wr (wr.alloc (.cells #[.pointer none, .slice none 0 0] 49)) := (Below.refl _ _).alloc (Nat.le_refl _) _
        clear hall hlt
        go_wp2_with fail
        obtain ⟨V0, hV0⟩ : ∃ V0, V0 = (wr.alloc (.cells #[.pointer none, .slice none 0 0] 49)) := ⟨_, rfl⟩
        rw [← hV0] at hB0 hBa ⊢
        clear hV0
        obtain ⟨w0, rfl⟩ : ∃ w0 : World, w0 = wr := ⟨_, rfl⟩
        obtain ⟨n, rfl⟩ : ∃ n : Nat, n = j := ⟨_, rfl⟩
        go_loopw [31] (fun i wr => ∃ j : Nat, i = .int .i64 j ∧ j ≤ m ∧ Below w0.heap.size w0 wr ∧ Lib.IsBuilderF 49 5 w0.heap.size w0.heap.size (Lib.byteCells (Fx.writeText T (R.take j))) wr ∧ (R.take j).all (Fx.rowOk T) = true) (fun i _ => m - (intOf i).toNat)
        case atStart => exact ⟨0, rfl, Nat.zero_le _, hBa, by simpa [Fx.writeText] using hB0, by simp⟩
        case round =>
          obtain ⟨j, rfl, hj2, hbw, hbld, hall⟩ := hrel
          clear hBa hB0
          by_cases hlt2 : j < m
          · obtain ⟨r, hr⟩ : ∃ r, R[j]? = some r := ⟨_, List.getElem?_eq_getElem (by have := HM.out; omega)⟩
            have hjm : (j : Int) < (m : Int) := by omega
            have hj0 : (0 : Int) ≤ (j : Int) := by omega
            obtain ⟨rb, ro, u, rfl, cr0, su⟩ := hrcell w0 (Below.refl _ _) j r hr
            obtain ⟨pu, cu, rfl, hcu, hucell⟩ := su.form
            obtain ⟨L, hL⟩ : ∃ L, L = r.length := ⟨_, rfl⟩
            rw [← hL] at cr0 hcu
            have cr : wr.cell? ⟨rb, ro + j, none⟩ = some (.slice pu L cu) := (hbw.cell (World.block_lt_of_cell? w0 _ cr0)).trans cr0
            clear cr0
            have HL : Hid (L = r.length) := hL
            have HR : Hid (R[j]? = some r) := hr
            have HALL : Hid ((R.take j).all (Fx.rowOk T) = true) := hall
            have hlenW : (Fx.writeText T (R.take j)).length ≤ 1000000 * 2401 := by
              have h1 := Fx.writeText_len T _ hall
              have h2 : (R.take j).length ≤ 1000000 := by rw [List.length_take]; omega
              have h3 : 12 * T.length + 1 ≤ 2401 := by have := HN.out; omega
              exact Nat.le_trans h1 (Nat.mul_le_mul h2 h3)
            clear hrcell hr hall su hL
            by_cases hLn : L = n
            · have hne : ((L : Int) != (n : Int)) = false := by simp [hLn]
              obtain ⟨J, hJ⟩ : ∃ J, J = Fx.writeText T (R.take j) := ⟨_, rfl⟩
              rw [← hJ] at hbld hlenW
              have HJ : Hid (J = Fx.writeText T (R.take j)) := hJ
              have HLT : Hid (L = T.length) := by show _ = _; have := HN.out; omega
              clear hJ hLn
              go_wp2_with fail
              obtain ⟨w1, rfl⟩ : ∃ w1 : World, w1 = wr := ⟨_, rfl⟩
              go_loopw [42] (fun i wr => ∃ k : Nat, i = .int .i64 k ∧ k ≤ L ∧ Below w0.heap.size w0 wr ∧ w1.heap.size ≤ wr.heap.size ∧ Lib.IsBuilderF 49 5 w0.heap.size w0.heap.size (Lib.byteCells (J ++ Fx.pt T r k)) wr ∧ Fx.rowOk (T.take k) (r.take k) = true) (fun i _ => L - (intOf i).toNat)
              case atStart => exact ⟨0, rfl, Nat.zero_le _, hbw, Nat.le_refl _, by rw [Fx.pt_zero, List.append_nil]; exact hbld, by simp [Fx.rowOk]⟩
              case round =>
                obtain ⟨k, rfl, hk, hbw3, hsz3, hbld3, hok⟩ := hrel
                have hwb := hbw3.size
                by_cases hlt3 : k < L
                · obtain ⟨x, hx⟩ : ∃ x, T[k]? = some x := ⟨_, List.getElem?_eq_getElem (by have := HLT.out; omega)⟩
                  obtain ⟨y, hy⟩ : ∃ y, r[k]? = some y := ⟨_, List.getElem?_eq_getElem (by have := HL.out; omega)⟩
                  have hkL : (k : Int) < (L : Int) := by omega
                  have hkn : (k : Int) < (n : Int) := by have := HLT.out; have := HN.out; omega
                  have hk0 : (0 : Int) ≤ (k : Int) := by omega
                  have hTc : ∀ W, Below w0.heap.size w0 W → ∃ xb xo, ta = some ⟨xb, xo, none⟩ ∧ W.cell? ⟨xb, xo + k, none⟩ = some (.int .i64 x) := fun W hW => by
                    obtain ⟨xb, xo, h1, h2⟩ := hcell W hW k x hx
                    exact ⟨xb, xo, h1, by have := h2 0 _ rfl; simpa using this⟩
                  obtain ⟨yb, yo, rfl, hyc⟩ := hucell wr hbw3 k y hy
                  have cy : wr.cell? ⟨yb, yo + k, none⟩ = some (.int .i64 y) := by have := hyc 0 _ rfl; simpa using this
                  obtain ⟨xb, xo, rfl, cx0⟩ := hTc wr hbw3
                  have hTc2 : ∀ W, Below w0.heap.size w0 W → W.cell? ⟨xb, xo + k, none⟩ = some (.int .i64 x) := fun W hW => by
                    obtain ⟨xb', xo', h1, h2⟩ := hTc W hW
                    cases h1; exact h2
                  have hptl : (Fx.pt T r k).length ≤ 2400 := by
                    have := Fx.pt_len (T := T) (r := r) (i := k) (by have := HLT.out; omega) (by have := HL.out; omega) hok
                    have := HLT.out; have := HN.out; omega
                  have HPS : Hid (Fx.pt T r (k + 1) = if k = 0 then Fx.text x y else Fx.pt T r k ++ 32 :: Fx.text x y) := Fx.pt_succ T r hx hy
                  have HOK2 : Hid (Fx.rowOk (T.take (k + 1)) (r.take (k + 1)) = Fx.may x y) := by show _ = _; rw [Fx.rowOk_take hx hy, hok]; rfl
                  have HNO : Hid (Fx.may x y = false → wrOk T R = false) := fun h => wr_row_no HR.out (Fx.rowOk_no hx hy h)
                  clear hTc hcell hucell hyc hx hy hok cx0 hbw
                  by_cases hx2 : x = 2
                  · by_cases hf : Fx.fits y = true
                    · have HMAY : Hid (Fx.may x y = true) := by show _ = _; unfold Fx.may; rw [hx2, hf]; rfl
                      have hf2 : -2147483648 ≤ y ∧ y ≤ 2147483647 := by simpa [Fx.fits] using hf
                      obtain ⟨TT, hTT⟩ : ∃ TT : ByteArray, TT = ⟨(Lib.itoa y).toArray⟩ := ⟨_, rfl⟩
                      have hTd : TT.data.toList = Fx.itoa y := by rw [hTT, ← Fx.lib_itoa]
                      have hTs : TT.size ≤ 11 := by rw [← list_size, hTd]; exact itoa_len hf
                      have HTX : Hid (TT.data.toList = Fx.text x y) := by show _ = _; rw [hTd]; unfold Fx.text; rw [if_neg (by omega)]
                      have hI : ∀ w', Gl w' → Calls Tryd.prog 24 #[.int .i64 y] w' fun e w'' => e = .returned (.string TT) ∧ Below w'.heap.size w' w'' := fun w' G' => by
                        refine (Tryd.strconv_Itoa y (by omega) (by omega) w' G'.tab).mono ?_
                        rintro e w2 ⟨h, k, os, rfl⟩
                        exact ⟨by rw [h, hTT], below_grown w' k os⟩
                      have hFt : ∀ w', Calls Tryd.prog 22 #[.int .i64 y] w' fun e w'' => e = .returned (.bool true) ∧ w'' = w' := fun w' => by
                        have := Fits_all y w'; rwa [hf] at this
                      clear hTT hTd hf
                      subst hx2
                      by_cases hk00 : k = 0
                      · have hnk : ¬ (0 : Int) < (k : Int) := by omega
                        have HP : Hid (Fx.pt T r (k + 1) = Fx.pt T r k ++ Fx.text 2 y) := by show _ = _; rw [HPS.out, if_pos hk00, hk00, Fx.pt_zero]; rfl
                        clear hk00
                        have hbW := hbw3
                        have hszW := hsz3
                        have hcx := hTc2 wr hbW
                        have hbldW := hbld3
                        clear hbld3 hTc2
                        go_wp2_with fail
                        refine (hFt _).mono ?_
                        rintro e W4 ⟨rfl, rfl⟩
                        go_wp2_with fail
                        refine (hI _ (G.below hbW)).mono ?_
                        rintro e W5 ⟨rfl, hB5⟩
                        have hbld5 := bld_below hbldW hB5
                        have hb5 : Below w0.heap.size w0 W5 := hbW.trans (hB5.mono hbW.size)
                        have hs5 : w1.heap.size ≤ W5.heap.size := Nat.le_trans hszW hB5.size
                        clear hB5
                        clear hbldW hbW hszW hcx
                        go_wp2_with fail
                        refine (bld_string w0.heap.size w0.heap.size _ TT _ hbld5 (by simp; omega) hb5.size).mono ?_
                        rintro e W7 ⟨rfl, hbld7, hB7, -⟩
                        have hb7 := hb5.trans hB7
                        have hs7 : w1.heap.size ≤ W7.heap.size := Nat.le_trans hs5 hB7.size
                        have HBD : Hid (Lib.IsBuilderF 49 5 w0.heap.size w0.heap.size (Lib.byteCells (J ++ Fx.pt T r (k + 1))) W7) := by show Lib.IsBuilderF _ _ _ _ _ _; rw [HP.out, ← HTX.out, ← List.append_assoc]; exact hbld7
                        clear hB7 hbld5 hb5 hs5 hbld7
                        go_wp2_with fail
                        go_roundw
                        case rel => exact ⟨k + 1, by go_num, by omega, hb7, hs7, HBD.out, by rw [HOK2.out]; exact HMAY.out⟩
                        case measure => simp [intOf]; omega
                      · have hnk : (0 : Int) < (k : Int) := by omega
                        have HP : Hid (Fx.pt T r (k + 1) = (Fx.pt T r k ++ [32]) ++ Fx.text 2 y) := by show _ = _; rw [HPS.out, if_neg hk00]; simp
                        clear hk00
                        go_wp2_with fail
                        refine (bld_byte w0.heap.size w0.heap.size _ 32 32 rfl _ hbld3 (by simp; omega) hwb).mono ?_
                        rintro e W2 ⟨rfl, hbldB, hB2, -⟩
                        have hbW : Below w0.heap.size w0 W2 := hbw3.trans hB2
                        have hszW : w1.heap.size ≤ W2.heap.size := Nat.le_trans hsz3 hB2.size
                        have hcx := hTc2 W2 hbW
                        have hbldW : Lib.IsBuilderF 49 5 w0.heap.size w0.heap.size (Lib.byteCells (J ++ (Fx.pt T r k ++ [32]))) W2 := by rw [← List.append_assoc]; exact hbldB
                        clear hbldB hB2 hbld3 hTc2
                        go_wp2_with fail
                        refine (hFt _).mono ?_
                        rintro e W4 ⟨rfl, rfl⟩
                        go_wp2_with fail
                        refine (hI _ (G.below hbW)).mono ?_
                        rintro e W5 ⟨rfl, hB5⟩
                        have hbld5 := bld_below hbldW hB5
                        have hb5 : Below w0.heap.size w0 W5 := hbW.trans (hB5.mono hbW.size)
                        have hs5 : w1.heap.size ≤ W5.heap.size := Nat.le_trans hszW hB5.size
                        clear hB5
                        clear hbldW hbW hszW hcx
                        go_wp2_with fail
                        refine (bld_string w0.heap.size w0.heap.size _ TT _ hbld5 (by simp; omega) hb5.size).mono ?_
                        rintro e W7 ⟨rfl, hbld7, hB7, -⟩
                        have hb7 := hb5.trans hB7
                        have hs7 : w1.heap.size ≤ W7.heap.size := Nat.le_trans hs5 hB7.size
                        have HBD : Hid (Lib.IsBuilderF 49 5 w0.heap.size w0.heap.size (Lib.byteCells (J ++ Fx.pt T r (k + 1))) W7) := by show Lib.IsBuilderF _ _ _ _ _ _; rw [HP.out, ← HTX.out, ← List.append_assoc]; exact hbld7
                        clear hB7 hbld5 hb5 hs5 hbld7
                        go_wp2_with fail
                        go_roundw
                        case rel => exact ⟨k + 1, by go_num, by omega, hb7, hs7, HBD.out, by rw [HOK2.out]; exact HMAY.out⟩
                        case measure => simp [intOf]; omega
                    · have HMAY : Hid (Fx.may x y = false) := by show _ = _; unfold Fx.may; rw [hx2, Bool.eq_false_iff.2 hf]; rfl
                      have hFt : ∀ w', Calls Tryd.prog 22 #[.int .i64 y] w' fun e w'' => e = .returned (.bool false) ∧ w'' = w' := fun w' => by
                        have := Fits_all y w'; rwa [Bool.eq_false_iff.2 hf] at this
                      clear hf
                      subst hx2
                      by_cases hk00 : k = 0
                      · have hnk : ¬ (0 : Int) < (k : Int) := by omega
                        have HP : Hid (Fx.pt T r (k + 1) = Fx.pt T r k ++ Fx.text 2 y) := by show _ = _; rw [HPS.out, if_pos hk00, hk00, Fx.pt_zero]; rfl
                        clear hk00
                        have hbW := hbw3
                        have hszW := hsz3
                        have hcx := hTc2 wr hbW
                        have hbldW := hbld3
                        clear hbld3 hTc2
                        go_wp2_with fail
                        refine (hFt _).mono ?_
                        rintro e W4 ⟨rfl, rfl⟩
                        go_wp2_with fail
                        go_ret2
                        exact wr_no (HNO.out HMAY.out) hbW
                      · have hnk : (0 : Int) < (k : Int) := by omega
                        have HP : Hid (Fx.pt T r (k + 1) = (Fx.pt T r k ++ [32]) ++ Fx.text 2 y) := by show _ = _; rw [HPS.out, if_neg hk00]; simp
                        clear hk00
                        go_wp2_with fail
                        refine (bld_byte w0.heap.size w0.heap.size _ 32 32 rfl _ hbld3 (by simp; omega) hwb).mono ?_
                        rintro e W2 ⟨rfl, hbldB, hB2, -⟩
                        have hbW : Below w0.heap.size w0 W2 := hbw3.trans hB2
                        have hszW : w1.heap.size ≤ W2.heap.size := Nat.le_trans hsz3 hB2.size
                        have hcx := hTc2 W2 hbW
                        have hbldW : Lib.IsBuilderF 49 5 w0.heap.size w0.heap.size (Lib.byteCells (J ++ (Fx.pt T r k ++ [32]))) W2 := by rw [← List.append_assoc]; exact hbldB
                        clear hbldB hB2 hbld3 hTc2
                        go_wp2_with fail
                        refine (hFt _).mono ?_
                        rintro e W4 ⟨rfl, rfl⟩
                        go_wp2_with fail
                        go_ret2
                        exact wr_no (HNO.out HMAY.out) hbW
                  · by_cases hx1 : x = 1
                    · by_cases hy01 : y = 0 ∨ y = 1
                      · obtain ⟨bb, hbb⟩ : ∃ bb, (y == 1) = bb := ⟨_, rfl⟩
                        have hy0 : (y == 0) = !bb := by rcases hy01 with rfl | rfl <;> rw [← hbb] <;> rfl
                        have HMAY : Hid (Fx.may x y = true) := by
                          show _ = _; rcases hy01 with rfl | rfl <;> rw [hx1] <;> rfl
                        obtain ⟨TT, hTT⟩ : ∃ TT : ByteArray, TT = ⟨(if bb then Fx.tru else Fx.fal).toArray⟩ := ⟨_, rfl⟩
                        have hTs : TT.size ≤ 11 := by rw [hTT, ← list_size]; cases bb <;> decide
                        have HTX : Hid (TT.data.toList = Fx.text x y) := by
                          show _ = _; rw [hTT, ← hbb, hx1]; rcases hy01 with rfl | rfl <;> rfl
                        have hFB : ∀ w', Calls Tryd.prog 25 #[.bool bb] w' fun e w'' => e = .returned (.string TT) ∧ w'' = w' := fun w' => by
                          have := fmtBool bb w'; rwa [← hTT] at this
                        clear hTT hy01 hx2
                        subst hx1
                        cases bb
                        all_goals
                          simp only [Bool.not_true, Bool.not_false] at hy0
                          by_cases hk00 : k = 0
                          · have hnk : ¬ (0 : Int) < (k : Int) := by omega
                            have HP : Hid (Fx.pt T r (k + 1) = Fx.pt T r k ++ Fx.text 1 y) := by show _ = _; rw [HPS.out, if_pos hk00, hk00, Fx.pt_zero]; rfl
                            clear hk00
                            have hbW := hbw3
                            have hszW := hsz3
                            have hcx := hTc2 wr hbW
                            have hbldW := hbld3
                            clear hbld3 hTc2
                            go_wp2_with fail
                            refine (hFB _).mono ?_
                            rintro e W5 ⟨rfl, rfl⟩
                            have hbld5 := hbldW
                            have hb5 := hbW
                            have hs5 := hszW
                            clear hbldW hbW hszW hcx
                            go_wp2_with fail
                            refine (bld_string w0.heap.size w0.heap.size _ TT _ hbld5 (by simp; omega) hb5.size).mono ?_
                            rintro e W7 ⟨rfl, hbld7, hB7, -⟩
                            have hb7 := hb5.trans hB7
                            have hs7 : w1.heap.size ≤ W7.heap.size := Nat.le_trans hs5 hB7.size
                            have HBD : Hid (Lib.IsBuilderF 49 5 w0.heap.size w0.heap.size (Lib.byteCells (J ++ Fx.pt T r (k + 1))) W7) := by show Lib.IsBuilderF _ _ _ _ _ _; rw [HP.out, ← HTX.out, ← List.append_assoc]; exact hbld7
                            clear hB7 hbld5 hb5 hs5 hbld7
                            go_wp2_with fail
                            go_roundw
                            case rel => exact ⟨k + 1, by go_num, by omega, hb7, hs7, HBD.out, by rw [HOK2.out]; exact HMAY.out⟩
                            case measure => simp [intOf]; omega
                          · have hnk : (0 : Int) < (k : Int) := by omega
                            have HP : Hid (Fx.pt T r (k + 1) = (Fx.pt T r k ++ [32]) ++ Fx.text 1 y) := by show _ = _; rw [HPS.out, if_neg hk00]; simp
                            clear hk00
                            go_wp2_with fail
                            refine (bld_byte w0.heap.size w0.heap.size _ 32 32 rfl _ hbld3 (by simp; omega) hwb).mono ?_
                            rintro e W2 ⟨rfl, hbldB, hB2, -⟩
                            have hbW : Below w0.heap.size w0 W2 := hbw3.trans hB2
                            have hszW : w1.heap.size ≤ W2.heap.size := Nat.le_trans hsz3 hB2.size
                            have hcx := hTc2 W2 hbW
                            have hbldW : Lib.IsBuilderF 49 5 w0.heap.size w0.heap.size (Lib.byteCells (J ++ (Fx.pt T r k ++ [32]))) W2 := by rw [← List.append_assoc]; exact hbldB
                            clear hbldB hB2 hbld3 hTc2
                            go_wp2_with fail
                            refine (hFB _).mono ?_
                            rintro e W5 ⟨rfl, rfl⟩
                            have hbld5 := hbldW
                            have hb5 := hbW
                            have hs5 := hszW
                            clear hbldW hbW hszW hcx
                            go_wp2_with fail
                            refine (bld_string w0.heap.size w0.heap.size _ TT _ hbld5 (by simp; omega) hb5.size).mono ?_
                            rintro e W7 ⟨rfl, hbld7, hB7, -⟩
                            have hb7 := hb5.trans hB7
                            have hs7 : w1.heap.size ≤ W7.heap.size := Nat.le_trans hs5 hB7.size
                            have HBD : Hid (Lib.IsBuilderF 49 5 w0.heap.size w0.heap.size (Lib.byteCells (J ++ Fx.pt T r (k + 1))) W7) := by show Lib.IsBuilderF _ _ _ _ _ _; rw [HP.out, ← HTX.out, ← List.append_assoc]; exact hbld7
                            clear hB7 hbld5 hb5 hs5 hbld7
                            go_wp2_with fail
                            go_roundw
                            case rel => exact ⟨k + 1, by go_num, by omega, hb7, hs7, HBD.out, by rw [HOK2.out]; exact HMAY.out⟩
                            case measure => simp [intOf]; omega
                      · have HMAY : Hid (Fx.may x y = false) := by show _ = _; unfold Fx.may; rw [hx1]; simp; omega
                        have hy0 : (y == 0) = false := by rw [beq_eq_false_iff_ne]; omega
                        have hy1 : (y == 1) = false := by rw [beq_eq_false_iff_ne]; omega
                        clear hy01 hx2
                        subst hx1
                        by_cases hk00 : k = 0
                        · have hnk : ¬ (0 : Int) < (k : Int) := by omega
                          have HP : Hid (Fx.pt T r (k + 1) = Fx.pt T r k ++ Fx.text 1 y) := by show _ = _; rw [HPS.out, if_pos hk00, hk00, Fx.pt_zero]; rfl
                          clear hk00
                          have hbW := hbw3
                          have hszW := hsz3
                          have hcx := hTc2 wr hbW
                          have hbldW := hbld3
                          clear hbld3 hTc2
                          go_wp2_with fail
                          go_ret2
                          exact wr_no (HNO.out HMAY.out) hbW
                        · have hnk : (0 : Int) < (k : Int) := by omega
                          have HP : Hid (Fx.pt T r (k + 1) = (Fx.pt T r k ++ [32]) ++ Fx.text 1 y) := by show _ = _; rw [HPS.out, if_neg hk00]; simp
                          clear hk00
                          go_wp2_with fail
                          refine (bld_byte w0.heap.size w0.heap.size _ 32 32 rfl _ hbld3 (by simp; omega) hwb).mono ?_
                          rintro e W2 ⟨rfl, hbldB, hB2, -⟩
                          have hbW : Below w0.heap.size w0 W2 := hbw3.trans hB2
                          have hszW : w1.heap.size ≤ W2.heap.size := Nat.le_trans hsz3 hB2.size
                          have hcx := hTc2 W2 hbW
                          have hbldW : Lib.IsBuilderF 49 5 w0.heap.size w0.heap.size (Lib.byteCells (J ++ (Fx.pt T r k ++ [32]))) W2 := by rw [← List.append_assoc]; exact hbldB
                          clear hbldB hB2 hbld3 hTc2
                          go_wp2_with fail
                          go_ret2
                          exact wr_no (HNO.out HMAY.out) hbW
                    · have HMAY : Hid (Fx.may x y = false) := by show _ = _; unfold Fx.may; simp [hx1, hx2]
                      have hx1' : (x == 1) = false := by rw [beq_eq_false_iff_ne]; omega
                      have hx2' : (x == 2) = false := by rw [beq_eq_false_iff_ne]; omega
                      by_cases hk00 : k = 0
                      · have hnk : ¬ (0 : Int) < (k : Int) := by omega
                        have HP : Hid (Fx.pt T r (k + 1) = Fx.pt T r k ++ Fx.text x y) := by show _ = _; rw [HPS.out, if_pos hk00, hk00, Fx.pt_zero]; rfl
                        clear hk00
                        have hbW := hbw3
                        have hszW := hsz3
                        have hcx := hTc2 wr hbW
                        have hbldW := hbld3
                        clear hbld3 hTc2
                        go_wp2_with fail
                        go_ret2
                        exact wr_no (HNO.out HMAY.out) hbW
                      · have hnk : (0 : Int) < (k : Int) := by omega
                        have HP : Hid (Fx.pt T r (k + 1) = (Fx.pt T r k ++ [32]) ++ Fx.text x y) := by show _ = _; rw [HPS.out, if_neg hk00]; simp
                        clear hk00
                        go_wp2_with fail
                        refine (bld_byte w0.heap.size w0.heap.size _ 32 32 rfl _ hbld3 (by simp; omega) hwb).mono ?_
                        rintro e W2 ⟨rfl, hbldB, hB2, -⟩
                        have hbW : Below w0.heap.size w0 W2 := hbw3.trans hB2
                        have hszW : w1.heap.size ≤ W2.heap.size := Nat.le_trans hsz3 hB2.size
                        have hcx := hTc2 W2 hbW
                        have hbldW : Lib.IsBuilderF 49 5 w0.heap.size w0.heap.size (Lib.byteCells (J ++ (Fx.pt T r k ++ [32]))) W2 := by rw [← List.append_assoc]; exact hbldB
                        clear hbldB hB2 hbld3 hTc2
                        go_wp2_with fail
                        go_ret2
                        exact wr_no (HNO.out HMAY.out) hbW
                · have hkL : k = L := by omega
                  have HRT : Hid (Fx.writeText T (R.take (j + 1)) = (J ++ Fx.pt T r k) ++ [10]) := by
                    show _ = _
                    rw [Fx.writeText_succ T HR.out, ← HJ.out, ← Fx.pt_full (by have := HL.out; have := HLT.out; omega), hkL, HLT.out]; simp
                  have HRA : Hid ((R.take (j + 1)).all (Fx.rowOk T) = true) := by
                    show _ = _
                    have e1 : T.take k = T := List.take_of_length_le (by have := HLT.out; omega)
                    have e2 : r.take k = r := List.take_of_length_le (by have := HL.out; omega)
                    rw [e1, e2] at hok
                    rw [List.take_add_one, HR.out]; simp [List.all_append, HALL.out, hok]
                  have hptl : (Fx.pt T r k).length ≤ 2400 := by
                    have := Fx.pt_len (T := T) (r := r) (i := k) (by have := HLT.out; omega) (by have := HL.out; omega) hok
                    have := HLT.out; have := HN.out; omega
                  clear hok hucell hcell hbld hbw
                  subst hkL
                  go_wp2_with fail
                  refine (bld_byte w0.heap.size w0.heap.size _ 10 10 rfl _ hbld3 (by simp; omega) hwb).mono ?_
                  rintro e W2 ⟨rfl, hbldB, hB2, -⟩
                  have hbW : Below w0.heap.size w0 W2 := hbw3.trans hB2
                  have HBD : Hid (Lib.IsBuilderF 49 5 w0.heap.size w0.heap.size (Lib.byteCells (Fx.writeText T (R.take (j + 1)))) W2) := by show Lib.IsBuilderF _ _ _ _ _ _; rw [HRT.out]; exact hbldB
                  clear hbldB hB2 hbld3 hbw3
                  go_wp2_with fail
                  go_roundw
                  case rel => exact ⟨j + 1, by go_num, by omega, hbW, HBD.out, HRA.out⟩
                  case measure => simp [intOf]; omega
            · have HF : Hid (wrOk T R = false) := wr_row_no HR.out (by
                rw [Bool.eq_false_iff]; intro q
                have := Fx.rowOk_len q
                have := HL.out; have := HN.out; omega)
              have hne : ((L : Int) != (n : Int)) = true := by simp; omega
              clear hucell hcell
              go_wp2_with fail
              go_ret2
              exact wr_no HF.out hbw
          · have hjm : j = m := by omega
            have e1 : R.take j = R := List.take_of_length_le (by have := HM.out; omega)
            rw [e1] at hbld hall
            have HYES : Hid (wrOk T R = true) := by
              show _ = _
              rw [HOK.out]; unfold Fx.writeOk; rw [HTY.out, hall]; rfl
            clear hall hcell hrcell e1
            subst hjm
            go_wp2_with fail
            refine (Tryd.Builder_String_any_k w0.heap.size w0.heap.size _ wr hbld hbw.size).mono ?_
            rintro e w2 ⟨rfl, -, h2, -⟩
            have hb2 := hbw.trans h2
            clear h2 hbld hbw
            go_wp2_with fail
            go_ret2
            exact ⟨_, _, rfl, hb2, by unfold wrText; rw [HYES.out]; rfl, by unfold wrEr; rw [HYES.out]; rfl⟩
  · have HF : Hid (wrOk T R = false) := by
      show _ = _
      unfold wrOk; rw [← hn, decide_eq_false h200]; rfl
    have h201 : ¬ (n : Int) ≤ 200 := by omega
    clear hn hm hcell hrcell
    go_enter Tryd.func13, Tryd.ntmps13
    go_wp2_with fail
    go_ret2
    exact wr_no HF.out (Below.refl _ _)
end Go.Proofs.YtffifljfbeaodaaDoor
