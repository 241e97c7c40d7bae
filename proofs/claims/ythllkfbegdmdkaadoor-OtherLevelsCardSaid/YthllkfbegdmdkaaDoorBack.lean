/- other.Back. -/
import Derived.Test.YthllkfbegdmdkaaDoorTakeW
import Derived.Test.YthllkfbegdmdkaaDoorSame
import Derived.Test.YthllkfbegdmdkaaDoorWNum
namespace Go.Proofs.YthllkfbegdmdkaaDoor
open Go.RowKit
set_option linter.unusedSimpArgs false
set_option linter.unusedVariables false
set_option maxRecDepth 100000
set_option maxHeartbeats 8000000
attribute [local go_sem] Oper.semAt_some

def backF (s : SeqS) : Int × Int × Bool :=
  if s = numSeq 0 126 [27, argB s.params 1 0, argB s.params 2 (-1)] ∧ 2 ≤ argB s.params 1 0 ∧ argB s.params 1 0 ≤ 8 ∧ 0 ≤ argB s.params 2 (-1) then (argB s.params 2 (-1), argB s.params 1 0 - 1, true) else (0, 0, false)
def backB (b : BL) : Int × Int × Bool :=
  match takeB b with
  | some (s, l) => if l = b.length ∧ s.params.length = 3 then backF s else (0, 0, false)
  | none => (0, 0, false)
theorem yieldsIf_load_run {P : Program} {ops : Array Oper} {S : World → Prop} {op : Oper} {a : Act} (hw : Region.wanted op (yielded ops a.tmps) = true) (ty : TypeId) (x : Operand) (ho : op.op = .load ty x)
    {p v : Value} (hx : a.eval x = p) (hS : ∀ w, S w → (Instr.loadAt ty p).run P w = .ok v w) : YieldsIf P ops S op v a :=
  .inl ⟨hw, fun w hw' => by
    unfold execOp
    simp only [ho, hx, Sem.run_bind, Sem.run_pure, Result.andThen_ok, hS w hw']⟩
theorem rd_new3 (w : World) (x y z : Int) : Rd .i64 (w.alloc (.cells #[.int .i64 x, .int .i64 y, .int .i64 z] 3)) (.slice (some ⟨w.heap.size, 0, none⟩) 3 3) [x, y, z] :=
  (Own.of_new (e := 3) (k := .i64) (w := w) (W := w) (xs := [x, y, z]) (Nat.le_refl _) (by simp)).rd
theorem other_Back (a : Option Addr) (n c : Nat) (b : BL) (w : World) (hR : Rd .u8 w (.slice a n c) (bI b)) (hn : b.length = n) (hn2 : n ≤ 900000) (hc : c ≤ 1000000000000000) (hA : (a = none ∧ c = 0) ∨ ∃ bb o, a = some ⟨bb, o, none⟩) (ht : Tab w)
    (hbw : ∀ q, blkOf (.slice a n c) q → q < w.heap.size)
    (hD : peekB b 0 = 27 → peekB b 1 = 80 → (rdRest b (rdParams b ⟨2, ⟨3, 0, [], [], 0, []⟩⟩)).at_ ≤ c) :
    Calls Tryd.prog 12 #[.slice a n c] w fun e w' => e = .returned (.tuple #[.int .i64 (backB b).1, .int .i64 (backB b).2.1, .bool (backB b).2.2]) ∧ Below w.heap.size w w' := by
  have hTk := Lib.hid (wire_Take a n c b w hR hn hn2 hc hA ht hbw hD)
  have hnI : (n : Int) ≤ 900000 := by omega
  clear hR hc hA ht hbw hD
  unfold SeqS.v at hTk
  cases htk : takeB b with
  | none =>
    have hBk : backB b = (0, 0, false) := by unfold backB; rw [htk]
    rw [hBk]
    have e1 : takeE b = 2 := by unfold takeE; rw [htk]
    rw [e1] at hTk
    generalize takeS b = s at *
    generalize takeN b = N at *
    clear hBk e1 htk
    go_enter Tryd.func12, Tryd.ntmps12
    go_wp2_with (first
      | (go_at_call 10; refine hTk.out.mono ?_; rintro e w1 ⟨pv, rfl, hRw, hb1⟩; obtain ⟨pa, pc, rfl⟩ := hRw.rd.len)
      | ((with_reducible apply wpList_store_new 37); exact rfl; exact rfl; exact rfl; exact rfl; exact rfl; kernel_rfl; rfl; rfl))
    go_ret3
    exact ⟨rfl, below_then hb1 (below_alloc (Below.refl _ _) _)⟩
  | some r =>
    obtain ⟨s, l⟩ := r
    have hBk : backB b = if l = b.length ∧ s.params.length = 3 then backF s else (0, 0, false) := by unfold backB; rw [htk]
    rw [hBk, hn]
    have e1 : takeE b = 0 := by unfold takeE; rw [htk]
    have e2 : takeS b = s := by unfold takeS; rw [htk]
    have e3 : takeN b = l := by unfold takeN; rw [htk]
    rw [e1, e2, e3] at hTk
    clear hBk e1 e2 e3 htk hn
    by_cases hl : l = n
    · subst hl
      by_cases h3 : s.params.length = 3
      · rw [if_pos ⟨rfl, h3⟩]
        have h3I : ((s.params.length : Nat) : Int) = 3 := by omega
        go_enter Tryd.func12, Tryd.ntmps12
        go_wp2_with (first
          | (go_at_call 10; refine hTk.out.mono ?_; rintro e w1 ⟨pv, rfl, hRw, hb1⟩; obtain ⟨pa, pc, rfl⟩ := hRw.rd.len)
          | ((with_reducible apply wpList_store_new 37); exact rfl; exact rfl; exact rfl; exact rfl; exact rfl; kernel_rfl; rfl; rfl))
        have hRw3 : RdRows w1 (.slice pa 3 pc) s.params := by have h := hRw.rd; rw [h3] at h; exact h
        obtain ⟨h, hh⟩ : ∃ h, w1.heap.size = h := ⟨_, rfl⟩
        obtain ⟨W4, hW4⟩ : ∃ W4, w1.alloc (Obj.cells #[.int .i64 s.kind, .int .u8 s.priv.toNat, .slice pa 3 pc, .string (ba s.inter), .int .u8 s.final.toNat, .string (ba s.data)] 37) = W4 := ⟨_, rfl⟩
        have hb14 : Below w1.heap.size w1 W4 := by rw [← hW4]; exact below_alloc (Below.refl _ _) _
        have hrow4 : W4.heap[h]? = some (.cells #[.int .i64 s.kind, .int .u8 s.priv.toNat, .slice pa 3 pc, .string (ba s.inter), .int .u8 s.final.toNat, .string (ba s.data)] 37) := by rw [← hW4, ← hh]; exact heap_alloc_new w1 _
        have hrow : ∀ W, Below W4.heap.size W4 W → W.heap[h]? = some (.cells #[.int .i64 s.kind, .int .u8 s.priv.toNat, .slice pa 3 pc, .string (ba s.inter), .int .u8 s.final.toNat, .string (ba s.data)] 37) := fun W hW => (hW.block _ (Array.getElem?_eq_some_iff.1 hrow4).1).trans hrow4
        have hR4 : RdRows W4 (.slice pa 3 pc) s.params := hRw3.below hb14
        rw [hW4, hh]
        have hArg1 := Lib.hid (show ∀ W, Below W4.heap.size W4 W → Calls Tryd.prog 11 #[s.v (.slice pa 3 pc), .int .i64 1, .int .i64 0] W fun e w' => e = .returned (.int .i64 (argB s.params 1 0)) ∧ Below W.heap.size W w' from fun W hW => wire_Arg s _ 1 0 W (hR4.below hW) (by decide))
        have hArg2 := Lib.hid (show ∀ W, Below W4.heap.size W4 W → Calls Tryd.prog 11 #[s.v (.slice pa 3 pc), .int .i64 2, .int .i64 (-1)] W fun e w' => e = .returned (.int .i64 (argB s.params 2 (-1))) ∧ Below W.heap.size W w' from fun W hW => wire_Arg s _ 2 (-1) W (hR4.below hW) (by decide))
        have hF : Hid (backF s = if s = numSeq 0 126 [27, argB s.params 1 0, argB s.params 2 (-1)] ∧ 2 ≤ argB s.params 1 0 ∧ argB s.params 1 0 ≤ 8 ∧ 0 ≤ argB s.params 2 (-1) then (argB s.params 2 (-1), argB s.params 1 0 - 1, true) else (0, 0, false)) := rfl
        generalize argB s.params 1 0 = p1 at *
        generalize argB s.params 2 (-1) = c1 at *
        have hNum := Lib.hid (show ∀ W : World, Calls Tryd.prog 18 #[.int .u8 0, .int .u8 126, .slice (some ⟨W.heap.size, 0, none⟩) 3 3] (W.alloc (.cells #[.int .i64 27, .int .i64 p1, .int .i64 c1] 3)).drew fun e w' => ∃ pv, e = .returned ((numSeq 0 126 [27, p1, c1]).v pv) ∧ RdRows w' pv (numSeq 0 126 [27, p1, c1]).params ∧ Below (W.alloc (.cells #[.int .i64 27, .int .i64 p1, .int .i64 c1] 3)).drew.heap.size (W.alloc (.cells #[.int .i64 27, .int .i64 p1, .int .i64 c1] 3)).drew w' from fun W => wire_Num 0 126 [27, p1, c1] _ _ (Rd.drew' (rd_new3 W 27 p1 c1)) (by simp))
        have hSame := Lib.hid (fun W qv (hW : Below W4.heap.size W4 W) hq => wire_Same s (numSeq 0 126 [27, p1, c1]) (.slice pa 3 pc) qv W (hR4.below hW) hq)
        have HB4 := Lib.hid (below_then hb1 hb14)
        clear hW4 hRw3 hRw hTk hb14 hrow4 hb1
        refine (wpIn_wide (n := 3)).1 ?_
        refine wpIn_region_held (L := 99) (S := fun W => Below W4.heap.size W4 W) rfl ?_
        have hd4 : Below W4.heap.size W4 W4.drew := below_drew (Below.refl _ _)
        refine wpAnyInH_take (i := 0) (v := .agg #[.int .i64 s.kind, .int .u8 s.priv.toNat, .slice pa 3 pc, .string (ba s.inter), .int .u8 s.final.toNat, .string (ba s.data)]) (by kernel_rfl) (by kernel_rfl) rfl (by kernel_rfl) (by kernel_rfl) (by kernel_rfl) (fun _ _ _ h => h) ⟨yieldsIf_load_run (p := .pointer (some ⟨h, 0, none⟩)) (by rfl) 37 _ rfl rfl (fun W hSW => run_load_row (hrow W hSW) Tryd.underlying37 rfl (by kernel_rfl)), fun _ => rfl⟩ hd4 ?_
        refine wpAnyInH_take (i := 2) (v := .agg #[.int .i64 s.kind, .int .u8 s.priv.toNat, .slice pa 3 pc, .string (ba s.inter), .int .u8 s.final.toNat, .string (ba s.data)]) (by kernel_rfl) (by kernel_rfl) rfl (by kernel_rfl) (by kernel_rfl) (by kernel_rfl) (fun _ _ _ h => h) ⟨yieldsIf_load_run (p := .pointer (some ⟨h, 0, none⟩)) (by rfl) 37 _ rfl rfl (fun W hSW => run_load_row (hrow W hSW) Tryd.underlying37 rfl (by kernel_rfl)), fun _ => rfl⟩ hd4 ?_
        refine wpAnyInH_list (i := 1) (by kernel_rfl) rfl rfl ?_
        gi_wp2_with (refine ⟨trivial, ?_⟩; gi_at_call 11; refine (callsIn_wide.2 (hArg1.out _ hd4)).mono ?_; rintro e W5 ⟨rfl, hb5⟩)
        have hd5 := below_then hd4 hb5
        refine ⟨.inr hd5, ?_⟩
        refine wpAnyInH_list (i := 3) (by kernel_rfl) rfl rfl ?_
        gi_wp2_with (refine ⟨trivial, ?_⟩; gi_at_call 11; refine (callsIn_wide.2 (hArg2.out _ hd5)).mono ?_; rintro e W6 ⟨rfl, hb6⟩)
        have hd6 := below_then hd5 hb6
        clear hb5 hb6 hd5 hd4
        refine ⟨.inr hd6, ?_⟩
        refine wpAnyInH_list (i := 4) (by kernel_rfl) rfl rfl ?_
        gi_wp2
        refine ⟨.inr hd6, ?_⟩
        refine wpAnyInH_list (i := 5) (by kernel_rfl) rfl rfl ?_
        gi_wp2
        refine ⟨.inr hd6, by kernel_rfl, ?_⟩
        go_wp2
        refine (wpIn_wide (n := 3)).1 ?_
        refine wpIn_region_held (L := 99) (S := fun W => Below W4.heap.size W4 W) rfl ?_
        have hd7 := below_then hd6 (below_drew (Below.refl _ _))
        refine wpAnyInH_take (i := 0) (v := .agg #[.int .i64 s.kind, .int .u8 s.priv.toNat, .slice pa 3 pc, .string (ba s.inter), .int .u8 s.final.toNat, .string (ba s.data)]) (by kernel_rfl) (by kernel_rfl) rfl (by kernel_rfl) (by kernel_rfl) (by kernel_rfl) (fun _ _ _ h => h) ⟨yieldsIf_load_run (p := .pointer (some ⟨h, 0, none⟩)) (by rfl) 37 _ rfl rfl (fun W hSW => run_load_row (hrow W hSW) Tryd.underlying37 rfl (by kernel_rfl)), fun _ => rfl⟩ hd7 ?_
        refine wpAnyInH_take (i := 1) (v := .int .i64 p1) (by kernel_rfl) (by kernel_rfl) rfl (by kernel_rfl) (by kernel_rfl) (by kernel_rfl) (fun _ _ _ h => h) ⟨Or.inl ⟨by rfl, fun W _ => by go_simp⟩, fun _ => rfl⟩ hd7 ?_
        refine wpAnyInH_take (i := 2) (v := .int .i64 c1) (by kernel_rfl) (by kernel_rfl) rfl (by kernel_rfl) (by kernel_rfl) (by kernel_rfl) (fun _ _ _ h => h) ⟨Or.inl ⟨by rfl, fun W _ => by go_simp⟩, fun _ => rfl⟩ hd7 ?_
        refine wpAnyInH_list (i := 3) (by kernel_rfl) rfl rfl ?_
        gi_wp2
        have hd8 := below_then hd6 (below_drew (below_alloc (Below.refl _ _) (.cells #[.int .i64 27, .int .i64 p1, .int .i64 c1] 3)))
        refine ⟨.inr hd8, ?_⟩
        refine wpAnyInH_list (i := 4) (by kernel_rfl) rfl rfl ?_
        gi_wp2_with (refine ⟨trivial, ?_⟩; gi_at_call 18; refine (callsIn_wide.2 (hNum.out _)).mono ?_; rintro e W9 ⟨qv, rfl, hRq, hb9⟩)
        have hd9 := below_then hd8 hb9
        clear hb9 hd8 hd7 hd6
        refine ⟨.inr hd9, ?_⟩
        refine wpAnyInH_list (i := 5) (by kernel_rfl) rfl rfl ?_
        gi_wp2_with (refine ⟨trivial, ?_⟩; gi_at_call 30; refine (callsIn_wide.2 (hSame.out _ _ hd9 hRq)).mono ?_; rintro e W10 ⟨rfl, hb10⟩)
        have hd10 := below_then hd9 hb10
        refine ⟨.inr hd10, ?_⟩
        refine wpAnyInH_list (i := 6) (by kernel_rfl) rfl rfl ?_
        gi_wp2
        refine ⟨.inr hd10, by kernel_rfl, ?_⟩
        have hfin := below_then HB4.out hd10
        clear hd9 hd10 hb10 hSame hRq hNum hArg1 hArg2 hR4 hrow HB4
        have HF := Lib.hid hF.out
        by_cases hs : s = numSeq 0 126 [27, p1, c1]
        · rw [decide_eq_true hs]
          have HS := Lib.hid hs
          clear hs hF
          by_cases h2 : 2 ≤ p1
          · by_cases h8 : p1 ≤ 8
            · by_cases hc0 : 0 ≤ c1
              · go_wp2
                go_ret3
                exact ⟨by rw [HF.out, if_pos ⟨HS.out, h2, h8, hc0⟩]; rfl, hfin⟩
              · go_wp2
                go_ret3
                exact ⟨by rw [HF.out, if_neg (fun h => by have := h.2.2.2; omega)]; rfl, hfin⟩
            · go_wp2
              go_ret3
              exact ⟨by rw [HF.out, if_neg (fun h => by have := h.2.2.1; omega)]; rfl, hfin⟩
          · go_wp2
            go_ret3
            exact ⟨by rw [HF.out, if_neg (fun h => by have := h.2.1; omega)]; rfl, hfin⟩
        · rw [decide_eq_false hs]
          have HS := Lib.hid hs
          clear hs hF
          go_wp2
          go_ret3
          exact ⟨by rw [HF.out, if_neg (fun h => HS.out h.1)]; rfl, hfin⟩
      · rw [if_neg (fun h => h3 h.2)]
        have h3I : ¬ ((s.params.length : Int) = 3) := by omega
        go_enter Tryd.func12, Tryd.ntmps12
        go_wp2_with (first
          | (go_at_call 10; refine hTk.out.mono ?_; rintro e w1 ⟨pv, rfl, hRw, hb1⟩; obtain ⟨pa, pc, rfl⟩ := hRw.rd.len)
          | ((with_reducible apply wpList_store_new 37); exact rfl; exact rfl; exact rfl; exact rfl; exact rfl; kernel_rfl; rfl; rfl))
        go_ret3
        exact ⟨rfl, below_then hb1 (below_alloc (Below.refl _ _) _)⟩
    · rw [if_neg (fun h => hl h.1)]
      have hlI : ¬ ((l : Int) = n) := by omega
      generalize s.params.length = m at *
      go_enter Tryd.func12, Tryd.ntmps12
      go_wp2_with (first
        | (go_at_call 10; refine hTk.out.mono ?_; rintro e w1 ⟨pv, rfl, hRw, hb1⟩; obtain ⟨pa, pc, rfl⟩ := hRw.rd.len)
        | ((with_reducible apply wpList_store_new 37); exact rfl; exact rfl; exact rfl; exact rfl; exact rfl; kernel_rfl; rfl; rfl))
      go_ret3
      exact ⟨rfl, below_then hb1 (below_alloc (Below.refl _ _) _)⟩
end Go.Proofs.YthllkfbegdmdkaaDoor
