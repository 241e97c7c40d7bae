/- other.Key. -/
import Derived.Test.YthllkfbegdmdkaaDoorOther
import Derived.Test.YthllkfbegdmdkaaDoorMay
import Derived.Test.YthllkfbegdmdkaaDoorPut
import Derived.Test.YthllkfbegdmdkaaDoorWNum
namespace Go.Proofs.YthllkfbegdmdkaaDoor
open Go.RowKit
set_option linter.unusedSimpArgs false
set_option linter.unusedVariables false
set_option maxRecDepth 100000
set_option maxHeartbeats 8000000
attribute [local go_sem] Oper.semAt_some
theorem build_levels (w : World) : (Instr.build 46 #[(0, .func (.func 13) #[] #[]), (1, .func (.func 14) #[] #[])]).run Tryd.prog w = .ok (.agg #[.func (.func 13) #[] #[], .func (.func 14) #[] #[]]) w := by kernel_rfl
structure ModeV where
  b0 : Bool
  b1 : Bool
  b2 : Bool
  b3 : Bool
  b4 : Bool
  b5 : Bool
  b6 : Bool
  mouse : Int
  coding : Int
  other : Int
def ModeV.v (m : ModeV) : Value := .agg #[.bool m.b0, .bool m.b1, .bool m.b2, .bool m.b3, .bool m.b4, .bool m.b5, .bool m.b6, .int .i64 m.mouse, .int .i64 m.coding, .int .i64 m.other]
def keySeq (k : KeyV) : SeqS := numSeq 0 126 [27, paramM (oldM k.mods), (charK k).1]
def levK (o : Int) (k : KeyV) : Bool := if o = 1 then fewK k else if o = 2 then allK k else false
def isK (o : Int) (k : KeyV) : Bool := (charK k).2 && levK o k && mayK k && (k.type != 3)
def keyB (o : Int) (k : KeyV) : BL := if isK o k then putE (keySeq k) else []
def keyT (o : Int) (k : KeyV) : Bool := isK o k && decide (mayE (keySeq k) = 0)
theorem key3_cells {w W : World} {m0 m1 m2 m3 m4 m5 m6 m7 m8 m9 a b c d e f g h : Value} {t t' t'' : TypeId}
    (hb : Below (((w.alloc (.cells #[m0, m1, m2, m3, m4, m5, m6, m7, m8, m9] t)).alloc (.cells #[a, b, c, d, e, f] t')).alloc (.cells #[g, h] t'')).heap.size (((w.alloc (.cells #[m0, m1, m2, m3, m4, m5, m6, m7, m8, m9] t)).alloc (.cells #[a, b, c, d, e, f] t')).alloc (.cells #[g, h] t'')) W) :
    (W.cell? ⟨w.heap.size, 9, none⟩ = some m9) ∧ (W.cell? ⟨w.heap.size + 1, 0, none⟩ = some a ∧ W.cell? ⟨w.heap.size + 1, 1, none⟩ = some b ∧ W.cell? ⟨w.heap.size + 1, 2, none⟩ = some c ∧ W.cell? ⟨w.heap.size + 1, 3, none⟩ = some d ∧ W.cell? ⟨w.heap.size + 1, 4, none⟩ = some e ∧ W.cell? ⟨w.heap.size + 1, 5, none⟩ = some f) ∧
    (W.cell? ⟨w.heap.size + 1 + 1, 0, none⟩ = some g ∧ W.cell? ⟨w.heap.size + 1 + 1, 1, none⟩ = some h) := by
  have k1 := key_cells (below_then (below_alloc (Below.refl _ _) _) hb)
  rw [World.size_alloc] at k1
  have hg0 : (((w.alloc (.cells #[m0, m1, m2, m3, m4, m5, m6, m7, m8, m9] t)).alloc (.cells #[a, b, c, d, e, f] t')).alloc (.cells #[g, h] t'')).heap[w.heap.size + 1 + 1]? = some (.cells #[g, h] t'') := by
    have hq := heap_alloc_new ((w.alloc (.cells #[m0, m1, m2, m3, m4, m5, m6, m7, m8, m9] t)).alloc (.cells #[a, b, c, d, e, f] t')) (.cells #[g, h] t'')
    rw [World.size_alloc, World.size_alloc] at hq
    exact hq
  have hg := (hb.block (w.heap.size + 1 + 1) (by simp)).trans hg0
  have hm := ((below_then (below_alloc (below_alloc (Below.refl _ (w.alloc (.cells #[m0, m1, m2, m3, m4, m5, m6, m7, m8, m9] t))) _) _) hb).block w.heap.size (by simp)).trans (heap_alloc_new w _)
  exact ⟨by rw [cell_of_row _ _ _ _ _ _ hm]; rfl, k1, by rw [cell_of_row _ _ _ _ _ _ hg]; rfl, by rw [cell_of_row _ _ _ _ _ _ hg]; rfl⟩
theorem own_nil (w : World) (base : Nat) : Own 5 .u8 w base (.slice none 0 0) (bI []) := ⟨by simp [bI], World.ownsRow_nil _ _ _ _⟩
theorem other_Key (m : ModeV) (k : KeyV) (hk : k.ok) (hs : k.text.size ≤ 1048576) (ho : in64 m.other) (w : World) (ht : Tab w) :
    Calls Tryd.prog 6 #[m.v, k.v] w fun e w' => ∃ v, e = .returned (.tuple #[v, .bool (keyT m.other k)]) ∧ Own 5 .u8 w' w.heap.size v (bI (keyB m.other k)) ∧ Below w.heap.size w w' := by
  have hMy := Lib.hid (mods_May k hk hs)
  have hCh := Lib.hid (other_char k hk)
  have hAll := Lib.hid (other_all k hk)
  have hFew := Lib.hid (other_few k hk)
  have hOld := Lib.hid (mods_Old k.mods hk.mods)
  have hPar := Lib.hid (mods_Param (oldM k.mods) (by have := hk.mods; unfold in64 oldM at *; omega))
  have hNum := Lib.hid (fun W : World => wire_Num 0 126 [27, paramM (oldM k.mods), (charK k).1] _ _ (show Rd .i64 (W.alloc (.cells #[.int .i64 27, .int .i64 (paramM (oldM k.mods)), .int .i64 (charK k).1] 3)) (.slice (some ⟨W.heap.size, 0, none⟩) 3 3) [27, paramM (oldM k.mods), (charK k).1] from
    (Own.of_new (e := 3) (k := .i64) (w := W) (W := W) (xs := [27, paramM (oldM k.mods), (charK k).1]) (Nat.le_refl _) (by simp)).rd) (by simp))
  have hPut := Lib.hid (fun W pv (hb : Below w.heap.size w W) (hR : RdRows W pv (keySeq k).params) => wire_Put (keySeq k) pv W hR (ht.below hb))
  have hKS : Hid (keySeq k = numSeq 0 126 [27, paramM (oldM k.mods), (charK k).1]) := rfl
  have hI : Hid (isK m.other k = ((charK k).2 && levK m.other k && mayK k && (k.type != 3))) := rfl
  have hL : Hid (levK m.other k = if m.other = 1 then fewK k else if m.other = 2 then allK k else false) := rfl
  have hB : Hid (keyB m.other k = if isK m.other k then putE (keySeq k) else []) := rfl
  have hT : Hid (keyT m.other k = (isK m.other k && decide (mayE (keySeq k) = 0))) := rfl
  generalize isK m.other k = X at *
  generalize levK m.other k = Lv at *
  generalize keyB m.other k = B at *
  generalize keyT m.other k = TT at *
  generalize mayK k = My at *
  generalize allK k = Al at *
  generalize fewK k = Fe at *
  obtain ⟨b0, b1, b2, b3, b4, b5, b6, mo, co, o⟩ := m
  simp only [ModeV.v] at *
  obtain ⟨code, mods, type, shifted, base, text⟩ := k
  simp only [KeyV.v] at *
  unfold in64 at ho
  clear hk hs ht
  generalize keySeq ⟨code, mods, type, shifted, base, text⟩ = ks at *
  generalize charK ⟨code, mods, type, shifted, base, text⟩ = C at *
  obtain ⟨c1, c2⟩ := C
  simp only [] at hCh hNum hKS hI
  have HKS := hKS.out
  subst HKS
  generalize oldM mods = old at *
  generalize paramM old = par at *
  have hBase : Below w.heap.size w (((w.alloc (.cells #[.bool b0, .bool b1, .bool b2, .bool b3, .bool b4, .bool b5, .bool b6, .int .i64 mo, .int .i64 co, .int .i64 o] 23)).alloc (.cells #[.int .i64 code, .int .i64 mods, .int .i64 type, .int .i64 shifted, .int .i64 base, .string text] 25)).alloc (.cells #[.func (.func 13) #[] #[], .func (.func 14) #[] #[]] 46)) := below_alloc (below_alloc (below_alloc (Below.refl _ _) _) _) _
  cases c2 with
  | false =>
    have hX : X = false := by rw [hI.out]; rfl
    have hTT : TT = false := by rw [hT.out, hX]; rfl
    have hBB : B = [] := by rw [hB.out, hX]; rfl
    clear hT hB hI hL hX
    go_enter Tryd.func6, Tryd.ntmps6
    go_wp2_with (first
      | ((with_reducible apply wpList_build 46); exact rfl; exact rfl; apply build_levels; case hp => exact rfl)
      | ((with_reducible apply wpList_store_new 46); exact rfl; exact rfl; exact rfl; (rw [World.size_alloc, World.size_alloc]; rfl); exact rfl; kernel_rfl; rfl; rfl)
      | (go_at_call 15; refine (hCh.out _).mono ?_; rintro e W1 ⟨rfl, hb1⟩; obtain ⟨q9, ⟨q0, q1, q2, q3, q4, q5⟩, ql0, ql1⟩ := key3_cells hb1)
      | (go_at_call 16; refine (hMy.out _).mono ?_; rintro e W2 ⟨rfl, hb2⟩; have hb12 := below_then hb1 hb2; obtain ⟨r9, ⟨r0, r1, r2, r3, r4, r5⟩, rl0, rl1⟩ := key3_cells hb12))
    go_ret2
    exact ⟨.slice none 0 0, by rw [hTT]; rfl, by rw [hBB]; exact own_nil _ _, below_then hBase hb1⟩
  | true =>
    rcases (by omega : o < 1 ∨ 2 < o ∨ o = 1 ∨ o = 2) with ho1 | ho1 | rfl | rfl
    · have hX : X = false := by rw [hI.out, hL.out, if_neg (by omega), if_neg (by omega)]; simp
      have hTT : TT = false := by rw [hT.out, hX]; rfl
      have hBB : B = [] := by rw [hB.out, hX]; rfl
      clear hT hB hI hL hX
      go_enter Tryd.func6, Tryd.ntmps6
      go_wp2_with (first
        | ((with_reducible apply wpList_build 46); exact rfl; exact rfl; apply build_levels; case hp => exact rfl)
        | ((with_reducible apply wpList_store_new 46); exact rfl; exact rfl; exact rfl; (rw [World.size_alloc, World.size_alloc]; rfl); exact rfl; kernel_rfl; rfl; rfl)
        | (go_at_call 15; refine (hCh.out _).mono ?_; rintro e W1 ⟨rfl, hb1⟩; obtain ⟨q9, ⟨q0, q1, q2, q3, q4, q5⟩, ql0, ql1⟩ := key3_cells hb1)
        | (go_at_call 16; refine (hMy.out _).mono ?_; rintro e W2 ⟨rfl, hb2⟩; have hb12 := below_then hb1 hb2; obtain ⟨r9, ⟨r0, r1, r2, r3, r4, r5⟩, rl0, rl1⟩ := key3_cells hb12))
      go_ret2
      exact ⟨.slice none 0 0, by rw [hTT]; rfl, by rw [hBB]; exact own_nil _ _, below_then hBase hb1⟩
    · have hX : X = false := by rw [hI.out, hL.out, if_neg (by omega), if_neg (by omega)]; simp
      have hTT : TT = false := by rw [hT.out, hX]; rfl
      have hBB : B = [] := by rw [hB.out, hX]; rfl
      clear hT hB hI hL hX
      go_enter Tryd.func6, Tryd.ntmps6
      go_wp2_with (first
        | ((with_reducible apply wpList_build 46); exact rfl; exact rfl; apply build_levels; case hp => exact rfl)
        | ((with_reducible apply wpList_store_new 46); exact rfl; exact rfl; exact rfl; (rw [World.size_alloc, World.size_alloc]; rfl); exact rfl; kernel_rfl; rfl; rfl)
        | (go_at_call 15; refine (hCh.out _).mono ?_; rintro e W1 ⟨rfl, hb1⟩; obtain ⟨q9, ⟨q0, q1, q2, q3, q4, q5⟩, ql0, ql1⟩ := key3_cells hb1)
        | (go_at_call 16; refine (hMy.out _).mono ?_; rintro e W2 ⟨rfl, hb2⟩; have hb12 := below_then hb1 hb2; obtain ⟨r9, ⟨r0, r1, r2, r3, r4, r5⟩, rl0, rl1⟩ := key3_cells hb12))
      go_ret2
      exact ⟨.slice none 0 0, by rw [hTT]; rfl, by rw [hBB]; exact own_nil _ _, below_then hBase hb1⟩
    · clear hAll
      have hLv : Lv = Fe := by rw [hL.out]; simp
      cases My with
      | false =>
        have hX : X = false := by rw [hI.out]; simp
        have hTT : TT = false := by rw [hT.out, hX]; rfl
        have hBB : B = [] := by rw [hB.out, hX]; rfl
        clear hT hB hI hL hX
        go_enter Tryd.func6, Tryd.ntmps6
        go_wp2_with (first
          | ((with_reducible apply wpList_build 46); exact rfl; exact rfl; apply build_levels; case hp => exact rfl)
          | ((with_reducible apply wpList_store_new 46); exact rfl; exact rfl; exact rfl; (rw [World.size_alloc, World.size_alloc]; rfl); exact rfl; kernel_rfl; rfl; rfl)
          | (go_at_call 15; refine (hCh.out _).mono ?_; rintro e W1 ⟨rfl, hb1⟩; obtain ⟨q9, ⟨q0, q1, q2, q3, q4, q5⟩, ql0, ql1⟩ := key3_cells hb1)
          | (go_at_call 16; refine (hMy.out _).mono ?_; rintro e W2 ⟨rfl, hb2⟩; have hb12 := below_then hb1 hb2; obtain ⟨r9, ⟨r0, r1, r2, r3, r4, r5⟩, rl0, rl1⟩ := key3_cells hb12)
          | (go_at_call 13; refine (hFew.out _).mono ?_; rintro e W3 ⟨rfl, hb3⟩; have hb13 := below_then hb12 hb3; obtain ⟨s9, ⟨s0, s1, s2, s3, s4, s5⟩, sl0, sl1⟩ := key3_cells hb13)
          | (go_at_call 20; refine (hOld.out _).mono ?_; rintro e W4 ⟨rfl, rfl⟩)
          | (go_at_call 19; refine (hPar.out _).mono ?_; rintro e W5 ⟨rfl, rfl⟩)
          | (go_at_call 18; refine (hNum.out _).mono ?_; rintro e W6 ⟨pv, rfl, hRp, hb6⟩; have hb16 := below_then (below_then hb13 (below_alloc (Below.refl _ _) _)) hb6)
          | (go_at_call 17; refine (hPut.out _ _ (below_then hBase hb16) hRp).mono ?_; rintro e W7 ⟨v, rfl, hOw, hb7⟩))
        go_ret2
        exact ⟨.slice none 0 0, by rw [hTT]; rfl, by rw [hBB]; exact own_nil _ _, below_then hBase hb12⟩
      | true =>
        by_cases h3 : type = 3
        · subst h3
          have hX : X = false := by rw [hI.out]; simp
          have hTT : TT = false := by rw [hT.out, hX]; rfl
          have hBB : B = [] := by rw [hB.out, hX]; rfl
          clear hT hB hI hL hX
          go_enter Tryd.func6, Tryd.ntmps6
          go_wp2_with (first
            | ((with_reducible apply wpList_build 46); exact rfl; exact rfl; apply build_levels; case hp => exact rfl)
            | ((with_reducible apply wpList_store_new 46); exact rfl; exact rfl; exact rfl; (rw [World.size_alloc, World.size_alloc]; rfl); exact rfl; kernel_rfl; rfl; rfl)
            | (go_at_call 15; refine (hCh.out _).mono ?_; rintro e W1 ⟨rfl, hb1⟩; obtain ⟨q9, ⟨q0, q1, q2, q3, q4, q5⟩, ql0, ql1⟩ := key3_cells hb1)
            | (go_at_call 16; refine (hMy.out _).mono ?_; rintro e W2 ⟨rfl, hb2⟩; have hb12 := below_then hb1 hb2; obtain ⟨r9, ⟨r0, r1, r2, r3, r4, r5⟩, rl0, rl1⟩ := key3_cells hb12)
            | (go_at_call 13; refine (hFew.out _).mono ?_; rintro e W3 ⟨rfl, hb3⟩; have hb13 := below_then hb12 hb3; obtain ⟨s9, ⟨s0, s1, s2, s3, s4, s5⟩, sl0, sl1⟩ := key3_cells hb13)
            | (go_at_call 20; refine (hOld.out _).mono ?_; rintro e W4 ⟨rfl, rfl⟩)
            | (go_at_call 19; refine (hPar.out _).mono ?_; rintro e W5 ⟨rfl, rfl⟩)
            | (go_at_call 18; refine (hNum.out _).mono ?_; rintro e W6 ⟨pv, rfl, hRp, hb6⟩; have hb16 := below_then (below_then hb13 (below_alloc (Below.refl _ _) _)) hb6)
            | (go_at_call 17; refine (hPut.out _ _ (below_then hBase hb16) hRp).mono ?_; rintro e W7 ⟨v, rfl, hOw, hb7⟩))
          go_ret2
          exact ⟨.slice none 0 0, by rw [hTT]; rfl, by rw [hBB]; exact own_nil _ _, below_then hBase hb12⟩
        · cases Fe with
          | false =>
            have hX : X = false := by rw [hI.out, hLv]; simp
            have hTT : TT = false := by rw [hT.out, hX]; rfl
            have hBB : B = [] := by rw [hB.out, hX]; rfl
            clear hT hB hI hL hX
            go_enter Tryd.func6, Tryd.ntmps6
            go_wp2_with (first
              | ((with_reducible apply wpList_build 46); exact rfl; exact rfl; apply build_levels; case hp => exact rfl)
              | ((with_reducible apply wpList_store_new 46); exact rfl; exact rfl; exact rfl; (rw [World.size_alloc, World.size_alloc]; rfl); exact rfl; kernel_rfl; rfl; rfl)
              | (go_at_call 15; refine (hCh.out _).mono ?_; rintro e W1 ⟨rfl, hb1⟩; obtain ⟨q9, ⟨q0, q1, q2, q3, q4, q5⟩, ql0, ql1⟩ := key3_cells hb1)
              | (go_at_call 16; refine (hMy.out _).mono ?_; rintro e W2 ⟨rfl, hb2⟩; have hb12 := below_then hb1 hb2; obtain ⟨r9, ⟨r0, r1, r2, r3, r4, r5⟩, rl0, rl1⟩ := key3_cells hb12)
              | (go_at_call 13; refine (hFew.out _).mono ?_; rintro e W3 ⟨rfl, hb3⟩; have hb13 := below_then hb12 hb3; obtain ⟨s9, ⟨s0, s1, s2, s3, s4, s5⟩, sl0, sl1⟩ := key3_cells hb13)
              | (go_at_call 20; refine (hOld.out _).mono ?_; rintro e W4 ⟨rfl, rfl⟩)
              | (go_at_call 19; refine (hPar.out _).mono ?_; rintro e W5 ⟨rfl, rfl⟩)
              | (go_at_call 18; refine (hNum.out _).mono ?_; rintro e W6 ⟨pv, rfl, hRp, hb6⟩; have hb16 := below_then (below_then hb13 (below_alloc (Below.refl _ _) _)) hb6)
              | (go_at_call 17; refine (hPut.out _ _ (below_then hBase hb16) hRp).mono ?_; rintro e W7 ⟨v, rfl, hOw, hb7⟩))
            go_ret2
            exact ⟨.slice none 0 0, by rw [hTT]; rfl, by rw [hBB]; exact own_nil _ _, below_then hBase hb13⟩
          | true =>
            have hX : X = true := by rw [hI.out, hLv]; simp [h3]
            have hTT : TT = decide (mayE (numSeq 0 126 [27, par, c1]) = 0) := by rw [hT.out, hX]; rfl
            have hBB : B = putE (numSeq 0 126 [27, par, c1]) := by rw [hB.out, hX]; rfl
            clear hT hB hI hL hX hLv hKS
            generalize hme : mayE (numSeq 0 126 [27, par, c1]) = me at *
            go_enter Tryd.func6, Tryd.ntmps6
            go_wp2_with (first
              | ((with_reducible apply wpList_build 46); exact rfl; exact rfl; apply build_levels; case hp => exact rfl)
              | ((with_reducible apply wpList_store_new 46); exact rfl; exact rfl; exact rfl; (rw [World.size_alloc, World.size_alloc]; rfl); exact rfl; kernel_rfl; rfl; rfl)
              | (go_at_call 15; refine (hCh.out _).mono ?_; rintro e W1 ⟨rfl, hb1⟩; obtain ⟨q9, ⟨q0, q1, q2, q3, q4, q5⟩, ql0, ql1⟩ := key3_cells hb1)
              | (go_at_call 16; refine (hMy.out _).mono ?_; rintro e W2 ⟨rfl, hb2⟩; have hb12 := below_then hb1 hb2; obtain ⟨r9, ⟨r0, r1, r2, r3, r4, r5⟩, rl0, rl1⟩ := key3_cells hb12)
              | (go_at_call 13; refine (hFew.out _).mono ?_; rintro e W3 ⟨rfl, hb3⟩; have hb13 := below_then hb12 hb3; obtain ⟨s9, ⟨s0, s1, s2, s3, s4, s5⟩, sl0, sl1⟩ := key3_cells hb13)
              | (go_at_call 20; refine (hOld.out _).mono ?_; rintro e W4 ⟨rfl, rfl⟩)
              | (go_at_call 19; refine (hPar.out _).mono ?_; rintro e W5 ⟨rfl, rfl⟩)
              | (go_at_call 18; refine (hNum.out _).mono ?_; rintro e W6 ⟨pv, rfl, hRp, hb6⟩; have hb16 := below_then (below_then hb13 (below_alloc (Below.refl _ _) _)) hb6)
              | (go_at_call 17; refine (hPut.out _ _ (below_then hBase hb16) hRp).mono ?_; rintro e W7 ⟨v, rfl, hOw, hb7⟩))
            go_ret2
            refine ⟨v, ?_, ?_, below_then hBase (below_then hb16 hb7)⟩
            · rw [hTT]; rfl
            · rw [hBB]; exact hOw.base (below_then hBase hb16).size
    · clear hFew
      have hLv : Lv = Al := by rw [hL.out]; simp
      cases My with
      | false =>
        have hX : X = false := by rw [hI.out]; simp
        have hTT : TT = false := by rw [hT.out, hX]; rfl
        have hBB : B = [] := by rw [hB.out, hX]; rfl
        clear hT hB hI hL hX
        go_enter Tryd.func6, Tryd.ntmps6
        go_wp2_with (first
          | ((with_reducible apply wpList_build 46); exact rfl; exact rfl; apply build_levels; case hp => exact rfl)
          | ((with_reducible apply wpList_store_new 46); exact rfl; exact rfl; exact rfl; (rw [World.size_alloc, World.size_alloc]; rfl); exact rfl; kernel_rfl; rfl; rfl)
          | (go_at_call 15; refine (hCh.out _).mono ?_; rintro e W1 ⟨rfl, hb1⟩; obtain ⟨q9, ⟨q0, q1, q2, q3, q4, q5⟩, ql0, ql1⟩ := key3_cells hb1)
          | (go_at_call 16; refine (hMy.out _).mono ?_; rintro e W2 ⟨rfl, hb2⟩; have hb12 := below_then hb1 hb2; obtain ⟨r9, ⟨r0, r1, r2, r3, r4, r5⟩, rl0, rl1⟩ := key3_cells hb12)
          | (go_at_call 14; refine (hAll.out _).mono ?_; rintro e W3 ⟨rfl, hb3⟩; have hb13 := below_then hb12 hb3; obtain ⟨s9, ⟨s0, s1, s2, s3, s4, s5⟩, sl0, sl1⟩ := key3_cells hb13)
          | (go_at_call 20; refine (hOld.out _).mono ?_; rintro e W4 ⟨rfl, rfl⟩)
          | (go_at_call 19; refine (hPar.out _).mono ?_; rintro e W5 ⟨rfl, rfl⟩)
          | (go_at_call 18; refine (hNum.out _).mono ?_; rintro e W6 ⟨pv, rfl, hRp, hb6⟩; have hb16 := below_then (below_then hb13 (below_alloc (Below.refl _ _) _)) hb6)
          | (go_at_call 17; refine (hPut.out _ _ (below_then hBase hb16) hRp).mono ?_; rintro e W7 ⟨v, rfl, hOw, hb7⟩))
        go_ret2
        exact ⟨.slice none 0 0, by rw [hTT]; rfl, by rw [hBB]; exact own_nil _ _, below_then hBase hb12⟩
      | true =>
        by_cases h3 : type = 3
        · subst h3
          have hX : X = false := by rw [hI.out]; simp
          have hTT : TT = false := by rw [hT.out, hX]; rfl
          have hBB : B = [] := by rw [hB.out, hX]; rfl
          clear hT hB hI hL hX
          go_enter Tryd.func6, Tryd.ntmps6
          go_wp2_with (first
            | ((with_reducible apply wpList_build 46); exact rfl; exact rfl; apply build_levels; case hp => exact rfl)
            | ((with_reducible apply wpList_store_new 46); exact rfl; exact rfl; exact rfl; (rw [World.size_alloc, World.size_alloc]; rfl); exact rfl; kernel_rfl; rfl; rfl)
            | (go_at_call 15; refine (hCh.out _).mono ?_; rintro e W1 ⟨rfl, hb1⟩; obtain ⟨q9, ⟨q0, q1, q2, q3, q4, q5⟩, ql0, ql1⟩ := key3_cells hb1)
            | (go_at_call 16; refine (hMy.out _).mono ?_; rintro e W2 ⟨rfl, hb2⟩; have hb12 := below_then hb1 hb2; obtain ⟨r9, ⟨r0, r1, r2, r3, r4, r5⟩, rl0, rl1⟩ := key3_cells hb12)
            | (go_at_call 14; refine (hAll.out _).mono ?_; rintro e W3 ⟨rfl, hb3⟩; have hb13 := below_then hb12 hb3; obtain ⟨s9, ⟨s0, s1, s2, s3, s4, s5⟩, sl0, sl1⟩ := key3_cells hb13)
            | (go_at_call 20; refine (hOld.out _).mono ?_; rintro e W4 ⟨rfl, rfl⟩)
            | (go_at_call 19; refine (hPar.out _).mono ?_; rintro e W5 ⟨rfl, rfl⟩)
            | (go_at_call 18; refine (hNum.out _).mono ?_; rintro e W6 ⟨pv, rfl, hRp, hb6⟩; have hb16 := below_then (below_then hb13 (below_alloc (Below.refl _ _) _)) hb6)
            | (go_at_call 17; refine (hPut.out _ _ (below_then hBase hb16) hRp).mono ?_; rintro e W7 ⟨v, rfl, hOw, hb7⟩))
          go_ret2
          exact ⟨.slice none 0 0, by rw [hTT]; rfl, by rw [hBB]; exact own_nil _ _, below_then hBase hb12⟩
        · cases Al with
          | false =>
            have hX : X = false := by rw [hI.out, hLv]; simp
            have hTT : TT = false := by rw [hT.out, hX]; rfl
            have hBB : B = [] := by rw [hB.out, hX]; rfl
            clear hT hB hI hL hX
            go_enter Tryd.func6, Tryd.ntmps6
            go_wp2_with (first
              | ((with_reducible apply wpList_build 46); exact rfl; exact rfl; apply build_levels; case hp => exact rfl)
              | ((with_reducible apply wpList_store_new 46); exact rfl; exact rfl; exact rfl; (rw [World.size_alloc, World.size_alloc]; rfl); exact rfl; kernel_rfl; rfl; rfl)
              | (go_at_call 15; refine (hCh.out _).mono ?_; rintro e W1 ⟨rfl, hb1⟩; obtain ⟨q9, ⟨q0, q1, q2, q3, q4, q5⟩, ql0, ql1⟩ := key3_cells hb1)
              | (go_at_call 16; refine (hMy.out _).mono ?_; rintro e W2 ⟨rfl, hb2⟩; have hb12 := below_then hb1 hb2; obtain ⟨r9, ⟨r0, r1, r2, r3, r4, r5⟩, rl0, rl1⟩ := key3_cells hb12)
              | (go_at_call 14; refine (hAll.out _).mono ?_; rintro e W3 ⟨rfl, hb3⟩; have hb13 := below_then hb12 hb3; obtain ⟨s9, ⟨s0, s1, s2, s3, s4, s5⟩, sl0, sl1⟩ := key3_cells hb13)
              | (go_at_call 20; refine (hOld.out _).mono ?_; rintro e W4 ⟨rfl, rfl⟩)
              | (go_at_call 19; refine (hPar.out _).mono ?_; rintro e W5 ⟨rfl, rfl⟩)
              | (go_at_call 18; refine (hNum.out _).mono ?_; rintro e W6 ⟨pv, rfl, hRp, hb6⟩; have hb16 := below_then (below_then hb13 (below_alloc (Below.refl _ _) _)) hb6)
              | (go_at_call 17; refine (hPut.out _ _ (below_then hBase hb16) hRp).mono ?_; rintro e W7 ⟨v, rfl, hOw, hb7⟩))
            go_ret2
            exact ⟨.slice none 0 0, by rw [hTT]; rfl, by rw [hBB]; exact own_nil _ _, below_then hBase hb13⟩
          | true =>
            have hX : X = true := by rw [hI.out, hLv]; simp [h3]
            have hTT : TT = decide (mayE (numSeq 0 126 [27, par, c1]) = 0) := by rw [hT.out, hX]; rfl
            have hBB : B = putE (numSeq 0 126 [27, par, c1]) := by rw [hB.out, hX]; rfl
            clear hT hB hI hL hX hLv hKS
            generalize hme : mayE (numSeq 0 126 [27, par, c1]) = me at *
            go_enter Tryd.func6, Tryd.ntmps6
            go_wp2_with (first
              | ((with_reducible apply wpList_build 46); exact rfl; exact rfl; apply build_levels; case hp => exact rfl)
              | ((with_reducible apply wpList_store_new 46); exact rfl; exact rfl; exact rfl; (rw [World.size_alloc, World.size_alloc]; rfl); exact rfl; kernel_rfl; rfl; rfl)
              | (go_at_call 15; refine (hCh.out _).mono ?_; rintro e W1 ⟨rfl, hb1⟩; obtain ⟨q9, ⟨q0, q1, q2, q3, q4, q5⟩, ql0, ql1⟩ := key3_cells hb1)
              | (go_at_call 16; refine (hMy.out _).mono ?_; rintro e W2 ⟨rfl, hb2⟩; have hb12 := below_then hb1 hb2; obtain ⟨r9, ⟨r0, r1, r2, r3, r4, r5⟩, rl0, rl1⟩ := key3_cells hb12)
              | (go_at_call 14; refine (hAll.out _).mono ?_; rintro e W3 ⟨rfl, hb3⟩; have hb13 := below_then hb12 hb3; obtain ⟨s9, ⟨s0, s1, s2, s3, s4, s5⟩, sl0, sl1⟩ := key3_cells hb13)
              | (go_at_call 20; refine (hOld.out _).mono ?_; rintro e W4 ⟨rfl, rfl⟩)
              | (go_at_call 19; refine (hPar.out _).mono ?_; rintro e W5 ⟨rfl, rfl⟩)
              | (go_at_call 18; refine (hNum.out _).mono ?_; rintro e W6 ⟨pv, rfl, hRp, hb6⟩; have hb16 := below_then (below_then hb13 (below_alloc (Below.refl _ _) _)) hb6)
              | (go_at_call 17; refine (hPut.out _ _ (below_then hBase hb16) hRp).mono ?_; rintro e W7 ⟨v, rfl, hOw, hb7⟩))
            go_ret2
            refine ⟨v, ?_, ?_, below_then hBase (below_then hb16 hb7)⟩
            · rw [hTT]; rfl
            · rw [hBB]; exact hOw.base (below_then hBase hb16).size
end Go.Proofs.YthllkfbegdmdkaaDoor
