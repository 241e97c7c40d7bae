/- The law OtherLevels: its walk. -/
import Derived.Test.YthllkfbegdmdkaaDoorAwake
namespace Go.Proofs.YthllkfbegdmdkaaDoor
open Go.RowKit
set_option linter.unusedSimpArgs false
set_option linter.unusedVariables false
set_option maxRecDepth 100000
set_option maxHeartbeats 8000000
attribute [local go_sem] Oper.semAt_some

theorem lev_few (k : KeyV) : keyT 1 k = true → keyT 2 k = true ∧ keyB 1 k = keyB 2 k := by
  have hlv : levK 1 k = true → levK 2 k = true := by
    intro h
    have h1 : fewK k = true := by simpa [levK] using h
    have h2 : allK k = true := by unfold fewK at h1; simp only [Bool.and_eq_true] at h1; exact h1.1.1
    simpa [levK] using h2
  intro h
  have hi : isK 1 k = true := by unfold keyT at h; simp only [Bool.and_eq_true] at h; exact h.1
  have hm : mayE (keySeq k) = 0 := by unfold keyT at h; simp only [Bool.and_eq_true, decide_eq_true_eq] at h; exact h.2
  have hi2 : isK 2 k = true := by
    unfold isK at hi ⊢
    simp only [Bool.and_eq_true] at hi ⊢
    exact ⟨⟨⟨hi.1.1.1, hlv hi.1.1.2⟩, hi.1.2⟩, hi.2⟩
  exact ⟨by unfold keyT; simp [hi2, hm], by unfold keyB; rw [hi, hi2]⟩
theorem lev_none (k : KeyV) : keyT 0 k = false := by unfold keyT isK levK; simp
theorem key_at (m : ModeV) (o : Int) (k : KeyV) (hk : k.ok) (hs : k.text.size ≤ 1048576) (ho : in64 o) (w : World) (ht : Tab w) :
    Calls Tryd.prog 6 #[({ m with other := o } : ModeV).v, k.v] w fun e w' => ∃ va vc, e = .returned (.tuple #[.slice va (keyB o k).length vc, .bool (keyT o k)]) ∧ Own 5 .u8 w' w.heap.size (.slice va (keyB o k).length vc) (bI (keyB o k)) ∧ Below w.heap.size w w' := by
  refine (other_Key { m with other := o } k hk hs ho w ht).mono ?_
  rintro e w' ⟨v, rfl, hO, hb⟩
  obtain ⟨va, vc, rfl⟩ := ownsRow_slice hO.2
  have hr := hO
  rw [bI_len] at hr ⊢
  exact ⟨va, vc, rfl, hr, hb⟩
theorem Own.agree {e : TypeId} {W W' : World} {base g : Nat} {v : Value} {xs : List Int} (h : Own e .u8 W base v xs) (hg : g < base) (hag : Agree (fun q => q ≠ g) W W') : Own e .u8 W' base v xs :=
  ⟨h.1, ownsRow_agree h.2 (fun q hq => by have := (h.2.lt q hq).1; show q ≠ g; omega) hag⟩
theorem conv_own {e : TypeId} (l : BL) (W : World) (a : Option Addr) (c : Nat) {base : Nat} (h : Own e .u8 W base (.slice a l.length c) (bI l)) :
    (convert 27 9 (.slice a l.length c)).run Tryd.prog W = .ok (.string (ba l)) W := conv_back l W a c h.rd
theorem below_cell {w W : World} {g j : Nat} {v : Value} (h : Below w.heap.size w W) (hg : w.heap.size ≤ g) : Below w.heap.size w (W.setCell ⟨g, j, none⟩ v) :=
  Agree.below h h.size ((Agree.refl (fun q => q ≠ g) _).setCell (.inl (fun e => e rfl)) _) (fun k hk => (show k ≠ g by omega))
theorem lev_walk (m : ModeV) (k : KeyV) (hk : k.ok) (w : World) (ht : Tab w) :
    Calls Tryd.prog 3 #[m.v, k.v] w fun e w' => e = .returned (.bool true) ∧ Below w.heap.size w w' := by
  obtain ⟨W0, hW0⟩ : ∃ W0, (w.alloc (Obj.cells #[.bool m.b0, .bool m.b1, .bool m.b2, .bool m.b3, .bool m.b4, .bool m.b5, .bool m.b6, .int .i64 m.mouse, .int .i64 m.coding, .int .i64 m.other] 23)).alloc (Obj.cells #[.int .i64 k.code, .int .i64 k.mods, .int .i64 k.type, .int .i64 k.shifted, .int .i64 k.base, .string k.text] 25) = W0 := ⟨_, rfl⟩
  have hB0 : Below w.heap.size w W0 := by rw [← hW0]; exact below_alloc (below_alloc (Below.refl _ _) _) _
  have hM0 : W0.heap[w.heap.size]? = some (.cells #[.bool m.b0, .bool m.b1, .bool m.b2, .bool m.b3, .bool m.b4, .bool m.b5, .bool m.b6, .int .i64 m.mouse, .int .i64 m.coding, .int .i64 m.other] 23) := by
    rw [← hW0]
    exact ((below_alloc (Below.refl _ _) _).block _ (by rw [World.size_alloc]; exact Nat.lt_succ_self _)).trans (heap_alloc_new w _)
  have hK0 : W0.heap[w.heap.size + 1]? = some (.cells #[.int .i64 k.code, .int .i64 k.mods, .int .i64 k.type, .int .i64 k.shifted, .int .i64 k.base, .string k.text] 25) := by
    rw [← hW0]
    have h := heap_alloc_new (w.alloc (Obj.cells #[.bool m.b0, .bool m.b1, .bool m.b2, .bool m.b3, .bool m.b4, .bool m.b5, .bool m.b6, .int .i64 m.mouse, .int .i64 m.coding, .int .i64 m.other] 23)) (Obj.cells #[.int .i64 k.code, .int .i64 k.mods, .int .i64 k.type, .int .i64 k.shifted, .int .i64 k.base, .string k.text] 25)
    rw [World.size_alloc] at h
    exact h
  have hAw := Lib.hid (law12_awake W0 (ht.below hB0))
  have hAw' := hAw
  rw [← hW0] at hAw'
  have HW0 := Lib.hid hW0
  have hst : ∀ (W : World) (o o' : Int), W.heap[w.heap.size]? = some (.cells #[.bool m.b0, .bool m.b1, .bool m.b2, .bool m.b3, .bool m.b4, .bool m.b5, .bool m.b6, .int .i64 m.mouse, .int .i64 m.coding, .int .i64 o] 23) →
      W.heap[w.heap.size + 1]? = some (.cells #[.int .i64 k.code, .int .i64 k.mods, .int .i64 k.type, .int .i64 k.shifted, .int .i64 k.base, .string k.text] 25) →
      W.cell? ⟨w.heap.size, 9, none⟩ = some (.int .i64 o) ∧ W.frozen? ⟨w.heap.size, 9, none⟩ = false ∧
      (Instr.loadAt 23 (.pointer (some ⟨w.heap.size, 0, none⟩))).run Tryd.prog (W.setCell ⟨w.heap.size, 9, none⟩ (.int .i64 o')) = .ok ({ m with other := o' } : ModeV).v (W.setCell ⟨w.heap.size, 9, none⟩ (.int .i64 o')) ∧
      (Instr.loadAt 25 (.pointer (some ⟨w.heap.size + 1, 0, none⟩))).run Tryd.prog (W.setCell ⟨w.heap.size, 9, none⟩ (.int .i64 o')) = .ok k.v (W.setCell ⟨w.heap.size, 9, none⟩ (.int .i64 o')) ∧
      (W.setCell ⟨w.heap.size, 9, none⟩ (.int .i64 o')).heap[w.heap.size]? = some (.cells #[.bool m.b0, .bool m.b1, .bool m.b2, .bool m.b3, .bool m.b4, .bool m.b5, .bool m.b6, .int .i64 m.mouse, .int .i64 m.coding, .int .i64 o'] 23) ∧
      (W.setCell ⟨w.heap.size, 9, none⟩ (.int .i64 o')).heap[w.heap.size + 1]? = some (.cells #[.int .i64 k.code, .int .i64 k.mods, .int .i64 k.type, .int .i64 k.shifted, .int .i64 k.base, .string k.text] 25) := by
    intro W o o' h1 h2
    have r1 := row_setCell h1 9 (.int .i64 o')
    have r2 : (W.setCell ⟨w.heap.size, 9, none⟩ (.int .i64 o')).heap[w.heap.size + 1]? = _ := (Below.heap_setCell _ _ _ _ (by show w.heap.size + 1 ≠ w.heap.size; omega)).trans h2
    exact ⟨by rw [cell_of_row _ _ _ _ _ _ h1]; rfl, by simp [World.frozen?, h1], run_load_row r1 Tryd.underlying23 rfl (by kernel_rfl), run_load_row r2 Tryd.underlying25 rfl (by kernel_rfl), r1, r2⟩
  have HST := Lib.hid hst
  by_cases hs : k.text.size ≤ 100
  · have hsI : ¬ ((100 : Int) < k.text.size) := by omega
    have hK := Lib.hid (fun o ho W (hb : Below w.heap.size w W) => key_at m o k hk (by omega) ho W (ht.below hb))
    have hF := Lib.hid (lev_few k)
    have hN := lev_none k
    have hK1 := Lib.hid (hK.out 1 (by unfold in64; omega))
    have hK2 := Lib.hid (hK.out 2 (by unfold in64; omega))
    have hK3 := Lib.hid (hK.out 0 (by unfold in64; omega))
    rw [hN] at hK3
    clear hK hN
    generalize keyT 1 k = Q1 at *
    generalize keyT 2 k = Q2 at *
    generalize keyB 1 k = B1 at *
    generalize keyB 2 k = B2 at *
    generalize keyB 0 k = B3 at *
    have HS0 := Lib.hid hB0
    have HM0 := Lib.hid hM0
    have HK0 := Lib.hid hK0
    clear hst hB0 hM0 hK0 hW0 hAw
    cases Q1 with
    | false =>
      go_enter Tryd.func3, Tryd.ntmps3
      go_wp2_with (first
      | (go_at_call 6; refine (hK3.out _ hw3).mono ?_; rintro e W4 ⟨va3, vc3, rfl, hO3, hb4⟩; have hcv1 := conv_own _ _ _ _ (hO1.agree hg1 ((agree_cell _ _ (Agree.refl _ _) 9 _).trans ((Agree.of_below hb3).trans ((agree_cell _ _ (Agree.refl _ _) 9 _).trans (Agree.of_below hb4))))); have hcv2 := conv_own _ _ _ _ (hO2.agree hg2 ((agree_cell _ _ (Agree.refl _ _) 9 _).trans (Agree.of_below hb4))))
      | (go_at_call 6; refine (hK2.out _ hw2).mono ?_; rintro e W3 ⟨va2, vc2, rfl, hO2, hb3⟩; have m3 := (hb3.block _ (Array.getElem?_eq_some_iff.1 m2').1).trans m2'; have k3 := (hb3.block _ (Array.getElem?_eq_some_iff.1 k2').1).trans k2'; have hg2 := (Array.getElem?_eq_some_iff.1 m2').1; obtain ⟨d9, e9, l3, l3', m3', k3'⟩ := HST.out W3 2 0 m3 k3; have hw3 := below_cell (j := 9) (v := .int .i64 0) (below_then hw2 hb3) (Nat.le_refl w.heap.size))
      | (go_at_call 6; refine (hK1.out _ hw1).mono ?_; rintro e W2 ⟨va1, vc1, rfl, hO1, hb2⟩; have m2 := (hb2.block _ (Array.getElem?_eq_some_iff.1 m1').1).trans m1'; have k2 := (hb2.block _ (Array.getElem?_eq_some_iff.1 k1').1).trans k1'; have hg1 := (Array.getElem?_eq_some_iff.1 m1').1; obtain ⟨b9, g9, l2, l2', m2', k2'⟩ := HST.out W2 1 2 m2 k2; have hw2 := below_cell (j := 9) (v := .int .i64 2) (below_then hw1 hb2) (Nat.le_refl w.heap.size))
      | (go_at_call 5; refine hAw'.out.mono ?_; rintro e W1 ⟨rfl, hb1⟩; rw [HW0.out] at hb1; have m1 := (hb1.block _ (Array.getElem?_eq_some_iff.1 HM0.out).1).trans HM0.out; have k1 := (hb1.block _ (Array.getElem?_eq_some_iff.1 HK0.out).1).trans HK0.out; have ct : W1.cell? ⟨w.heap.size + 1, 5, none⟩ = some (.string k.text) := (by rw [cell_of_row _ _ _ _ _ _ k1]; rfl); obtain ⟨c9, f9, l1, l1', m1', k1'⟩ := HST.out W1 m.other 1 m1 k1; have hw1 := below_cell (j := 9) (v := .int .i64 1) (below_then HS0.out hb1) (Nat.le_refl w.heap.size))
      | ((with_reducible apply wpList_load_run 23); exact rfl; exact rfl; exact l3)
      | ((with_reducible apply wpList_load_run 25); exact rfl; exact rfl; exact l3')
      | ((with_reducible apply wpList_load_run 23); exact rfl; exact rfl; exact l2)
      | ((with_reducible apply wpList_load_run 25); exact rfl; exact rfl; exact l2')
      | ((with_reducible apply wpList_load_run 23); exact rfl; exact rfl; exact l1)
      | ((with_reducible apply wpList_load_run 25); exact rfl; exact rfl; exact l1'))
      go_ret
      exact ⟨rfl, below_then hw3 hb4⟩
    | true =>
      obtain ⟨rfl, rfl⟩ := hF.out rfl
      go_enter Tryd.func3, Tryd.ntmps3
      go_wp2_with (first
      | (go_at_call 6; refine (hK3.out _ hw3).mono ?_; rintro e W4 ⟨va3, vc3, rfl, hO3, hb4⟩; have hcv1 := conv_own _ _ _ _ (hO1.agree hg1 ((agree_cell _ _ (Agree.refl _ _) 9 _).trans ((Agree.of_below hb3).trans ((agree_cell _ _ (Agree.refl _ _) 9 _).trans (Agree.of_below hb4))))); have hcv2 := conv_own _ _ _ _ (hO2.agree hg2 ((agree_cell _ _ (Agree.refl _ _) 9 _).trans (Agree.of_below hb4))))
      | (go_at_call 6; refine (hK2.out _ hw2).mono ?_; rintro e W3 ⟨va2, vc2, rfl, hO2, hb3⟩; have m3 := (hb3.block _ (Array.getElem?_eq_some_iff.1 m2').1).trans m2'; have k3 := (hb3.block _ (Array.getElem?_eq_some_iff.1 k2').1).trans k2'; have hg2 := (Array.getElem?_eq_some_iff.1 m2').1; obtain ⟨d9, e9, l3, l3', m3', k3'⟩ := HST.out W3 2 0 m3 k3; have hw3 := below_cell (j := 9) (v := .int .i64 0) (below_then hw2 hb3) (Nat.le_refl w.heap.size))
      | (go_at_call 6; refine (hK1.out _ hw1).mono ?_; rintro e W2 ⟨va1, vc1, rfl, hO1, hb2⟩; have m2 := (hb2.block _ (Array.getElem?_eq_some_iff.1 m1').1).trans m1'; have k2 := (hb2.block _ (Array.getElem?_eq_some_iff.1 k1').1).trans k1'; have hg1 := (Array.getElem?_eq_some_iff.1 m1').1; obtain ⟨b9, g9, l2, l2', m2', k2'⟩ := HST.out W2 1 2 m2 k2; have hw2 := below_cell (j := 9) (v := .int .i64 2) (below_then hw1 hb2) (Nat.le_refl w.heap.size))
      | (go_at_call 5; refine hAw'.out.mono ?_; rintro e W1 ⟨rfl, hb1⟩; rw [HW0.out] at hb1; have m1 := (hb1.block _ (Array.getElem?_eq_some_iff.1 HM0.out).1).trans HM0.out; have k1 := (hb1.block _ (Array.getElem?_eq_some_iff.1 HK0.out).1).trans HK0.out; have ct : W1.cell? ⟨w.heap.size + 1, 5, none⟩ = some (.string k.text) := (by rw [cell_of_row _ _ _ _ _ _ k1]; rfl); obtain ⟨c9, f9, l1, l1', m1', k1'⟩ := HST.out W1 m.other 1 m1 k1; have hw1 := below_cell (j := 9) (v := .int .i64 1) (below_then HS0.out hb1) (Nat.le_refl w.heap.size))
      | ((with_reducible apply wpList_load_run 23); exact rfl; exact rfl; exact l3)
      | ((with_reducible apply wpList_load_run 25); exact rfl; exact rfl; exact l3')
      | ((with_reducible apply wpList_load_run 23); exact rfl; exact rfl; exact l2)
      | ((with_reducible apply wpList_load_run 25); exact rfl; exact rfl; exact l2')
      | ((with_reducible apply wpList_load_run 23); exact rfl; exact rfl; exact l1)
      | ((with_reducible apply wpList_load_run 25); exact rfl; exact rfl; exact l1'))
      go_ret
      exact ⟨rfl, below_then hw3 hb4⟩
  · have hsI : (100 : Int) < k.text.size := by omega
    clear hst
    go_enter Tryd.func3, Tryd.ntmps3
    go_wp2_with (first
      | (go_at_call 5; refine hAw'.out.mono ?_; rintro e W1 ⟨rfl, hb1⟩; rw [HW0.out] at hb1; have ct : W1.cell? ⟨w.heap.size + 1, 5, none⟩ = some (.string k.text) := by (rw [cell_of_row _ _ _ _ _ _ ((hb1.block _ (Array.getElem?_eq_some_iff.1 hK0).1).trans hK0)]; rfl)))
    go_ret
    exact ⟨rfl, hB0.trans (hb1.mono hB0.size)⟩
end Go.Proofs.YthllkfbegdmdkaaDoor
