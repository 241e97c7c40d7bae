/- wire's reader: rest, read. -/
import Derived.Test.YthllkfbegdmdkaaDoorParams
namespace Go.Proofs.YthllkfbegdmdkaaDoor
open Go.RowKit
set_option linter.unusedSimpArgs false
set_option linter.unusedVariables false
set_option maxRecDepth 100000
set_option maxHeartbeats 8000000
attribute [local go_sem] Oper.semAt_some

section
variable {w : World} {g : Nat} {a : Option Addr} {n c at_ : Nat} {k : Int} {p : UInt8} {pv : Value} {I : BL} {f : UInt8} {D : BL}
theorem RdrAt.c5 (h : RdrAt w g a n c at_ k p pv I f D) : w.cell? ⟨g, 5, none⟩ = some (.string (ba I)) := by rw [cell_of_row _ _ _ _ _ _ h]; rfl
theorem RdrAt.c6 (h : RdrAt w g a n c at_ k p pv I f D) : w.cell? ⟨g, 6, none⟩ = some (.int .u8 f.toNat) := by rw [cell_of_row _ _ _ _ _ _ h]; rfl
theorem RdrAt.c7 (h : RdrAt w g a n c at_ k p pv I f D) : w.cell? ⟨g, 7, none⟩ = some (.string (ba D)) := by rw [cell_of_row _ _ _ _ _ _ h]; rfl
theorem RdrAt.c2 (h : RdrAt w g a n c at_ k p pv I f D) : w.cell? ⟨g, 2, none⟩ = some (.int .i64 k) := by rw [cell_of_row _ _ _ _ _ _ h]; rfl
theorem RdrAt.set2 (h : RdrAt w g a n c at_ k p pv I f D) (x : Int) : RdrAt (w.setCell ⟨g, 2, none⟩ (.int .i64 x)) g a n c at_ x p pv I f D := row_setCell h 2 _
theorem RdrAt.set5 (h : RdrAt w g a n c at_ k p pv I f D) (x : BL) : RdrAt (w.setCell ⟨g, 5, none⟩ (.string (ba x))) g a n c at_ k p pv x f D := row_setCell h 5 _
theorem RdrAt.set6 (h : RdrAt w g a n c at_ k p pv I f D) (x : UInt8) : RdrAt (w.setCell ⟨g, 6, none⟩ (.int .u8 x.toNat)) g a n c at_ k p pv I x D := row_setCell h 6 _
theorem RdrAt.set7 (h : RdrAt w g a n c at_ k p pv I f D) (x : BL) : RdrAt (w.setCell ⟨g, 7, none⟩ (.string (ba x))) g a n c at_ k p pv I f x := row_setCell h 7 _
theorem agree_cell {g : Nat} (w W : World) (h : Agree (fun q => q ≠ g) w W) (j : Nat) (v : Value) : Agree (fun q => q ≠ g) w (W.setCell ⟨g, j, none⟩ v) := h.setCell (.inl (fun e => e rfl)) _
end
/-- The bytes of a reader: they lie apart from it. -/
def RdB (w : World) (g : Nat) (a : Option Addr) (n c : Nat) (b : BL) : Prop :=
  Rd .u8 w (.slice a n c) (bI b) ∧ b.length = n ∧ ¬ blkOf (.slice a n c) g ∧ n ≤ 900000 ∧ c ≤ 1000000000000000 ∧ ((a = none ∧ c = 0) ∨ ∃ bb o, a = some ⟨bb, o, none⟩) ∧ (∀ q, blkOf (.slice a n c) q → q < w.heap.size)
theorem RdB.agree {w W : World} {g : Nat} {a : Option Addr} {n c : Nat} {b : BL} (h : RdB w g a n c b) (hag : Agree (fun q => q ≠ g) w W) : RdB W g a n c b := by
  obtain ⟨h1, h2, h3, h4, h5, h6, h7⟩ := h
  exact ⟨h1.agree (fun x hx => by rintro rfl; exact h3 hx) hag, h2, h3, h4, h5, h6, fun q hq => Nat.lt_of_lt_of_le (h7 q hq) hag.size⟩
section
variable (g : Nat) (a : Option Addr) (n c : Nat) (b : BL) (w : World) (at_ : Nat) (k : Int) (p : UInt8) (pv : Value) (I : BL) (f : UInt8) (D : BL)
theorem rdr_peek (hB : RdB w g a n c b) (hS : RdrAt w g a n c at_ k p pv I f D) (hat : at_ ≤ 1000000) :
    Calls Tryd.prog 47 #[.pointer (some ⟨g, 0, none⟩)] w fun e w' => e = .returned (.int .u8 (peekB b at_).toNat) ∧ RdrAt w' g a n c at_ k p pv I f D ∧ Agree (fun q => q ≠ g) w w' := by
  obtain ⟨h1, h2, h3, h4, h5, h6, h7⟩ := hB
  refine (cur_peek g a n c at_ b w hS.c0 hS.c1 h1 h2 (by omega)).mono ?_
  rintro e w' ⟨rfl, q, rfl⟩
  exact ⟨rfl, hS.drewN q, (Agree.refl _ _).drewN _⟩
theorem rdr_next (hB : RdB w g a n c b) (hS : RdrAt w g a n c at_ k p pv I f D) (hat : at_ ≤ 1000000) :
    Calls Tryd.prog 46 #[.pointer (some ⟨g, 0, none⟩)] w fun e w' => e = .returned (.int .u8 (peekB b at_).toNat) ∧ RdrAt w' g a n c (at_ + 1) k p pv I f D ∧ Agree (fun q => q ≠ g) w w' := by
  obtain ⟨h1, h2, h3, h4, h5, h6, h7⟩ := hB
  refine (cur_next g a n c at_ b w hS.c0 hS.c1 (hS.fr 1) h1 h2 (by omega)).mono ?_
  rintro e w' ⟨rfl, q, rfl⟩
  exact ⟨rfl, (hS.drewN q).set1 (at_ + 1), ((Agree.refl _ _).drewN _).setCell (.inl (fun e => e rfl)) _⟩
theorem rdr_run (lo hi : UInt8) (hB : RdB w g a n c b) (hS : RdrAt w g a n c at_ k p pv I f D) (hat : at_ ≤ c) :
    Calls Tryd.prog 50 #[.pointer (some ⟨g, 0, none⟩), .int .u8 lo.toNat, .int .u8 hi.toNat] w fun e w' => e = .returned (.string (ba (runB b at_ lo hi))) ∧
      RdrAt w' g a n c (at_ + (runB b at_ lo hi).length) k p pv I f D ∧ Agree (fun k => k ≠ g) w w' := by
  obtain ⟨h1, h2, h3, h4, h5, h6, h7⟩ := hB
  exact cur_run g a n c at_ k p pv I f D b lo hi w hS h1 h2 h3 hat h5 h6
theorem reader_rest (hB : RdB w g a n c b) (hS : RdrAt w g a n c at_ k p pv I f D) (hat : at_ ≤ n) :
    Calls Tryd.prog 49 #[.pointer (some ⟨g, 0, none⟩)] w fun e w' => e = .returned (.tuple #[]) ∧
      RdrAt w' g a n c (at_ + (runB b at_ 32 47).length + 1) k p pv (runB b at_ 32 47) (peekB b (at_ + (runB b at_ 32 47).length)) D ∧ Agree (fun k => k ≠ g) w w' := by
  have hnc : n ≤ c := by obtain ⟨⟨_, _, e, h, _⟩, hn, _⟩ := hB; injection e with _ e2 e3; rw [← e2] at h; omega
  have hl : at_ + (runB b at_ 32 47).length ≤ n := by have := runB_len_le b at_ 32 47 (by rw [hB.2.1]; exact hat); rw [hB.2.1] at this; exact this
  have hn2 : n ≤ 900000 := hB.2.2.2.1
  have hRun := Lib.hid (rdr_run g a n c b w at_ k p pv I f D 32 47 hB hS (by omega))
  have HB := Lib.hid hB
  clear hB hS
  generalize runB b at_ 32 47 = T at *
  have hNx := Lib.hid (fun W hW hSW => rdr_next g a n c b W (at_ + T.length) k p pv T f D (RdB.agree HB.out hW) hSW (by omega))
  generalize peekB b (at_ + T.length) = x at *
  generalize hm : at_ + T.length = m at *
  go_enter Tryd.func49, Tryd.ntmps49
  go_wp2_with (first
    | (go_at_call 50; refine hRun.out.mono ?_; rintro e w1 ⟨rfl, hS1, hA1⟩; have c5 := hS1.c5; have f5 := hS1.fr 5)
    | (go_at_call 46; refine (hNx.out _ (agree_cell _ _ hA1 5 _) (hS1.set5 T)).mono ?_; rintro e w2 ⟨rfl, hS2, hA2⟩; have c6 := hS2.c6; have f6 := hS2.fr 6))
  refine ⟨rfl, _, results_none rfl _ _ _, rfl, ?_, ?_⟩
  · exact hS2.set6 x
  · exact agree_cell _ _ ((agree_cell _ _ hA1 5 _).trans hA2) 6 _
end
theorem peekB_lt {b : BL} {i : Nat} (h : peekB b i ≠ 0) : i < b.length := Nat.lt_of_not_le fun h' => h (peekB_end h')
theorem rdParams_at (b : BL) (at_ : Nat) (s : SeqS) (h : at_ ≤ b.length) : (rdParams b ⟨at_, s⟩).at_ ≤ b.length := by
  have h1 : (rdPriv b ⟨at_, s⟩).at_ ≤ b.length := by
    unfold rdPriv
    split
    · rename_i hc
      simp only [Bool.and_eq_true, decide_eq_true_eq] at hc
      have := peekB_lt (b := b) (i := at_) (fun e => by rw [e] at hc; exact absurd hc.1 (by decide))
      simp only []; omega
    · exact h
  have := runB_len_le b (rdPriv b ⟨at_, s⟩).at_ 48 59 h1
  exact this
theorem rdParams_s (b : BL) (at_ : Nat) (k : Int) (I : BL) (f : UInt8) (D : BL) :
    (rdParams b ⟨at_, ⟨k, 0, [], I, f, D⟩⟩).s = ⟨k, (rdParams b ⟨at_, ⟨k, 0, [], I, f, D⟩⟩).s.priv, (rdParams b ⟨at_, ⟨k, 0, [], I, f, D⟩⟩).s.params, I, f, D⟩ := by
  unfold rdParams rdPar rdPriv
  split <;> simp
section
variable (g : Nat) (a : Option Addr) (n c : Nat) (b : BL) (w : World)
theorem reader_par (at_ : Nat) (k : Int) (I : BL) (f : UInt8) (D : BL) (hB : RdB w g a n c b) (hS : RdrAt w g a n c at_ k 0 (.slice none 0 0) I f D) (hat : at_ ≤ n) {R : RdS} (hR : rdParams b ⟨at_, ⟨k, 0, [], I, f, D⟩⟩ = R) :
    Calls Tryd.prog 48 #[.pointer (some ⟨g, 0, none⟩)] w fun e w' => e = .returned (.tuple #[]) ∧
      ∃ pv, RdrAt w' g a n c R.at_ k R.s.priv pv I f D ∧ RdRowsS (fun q => w.heap.size ≤ q) w' pv R.s.params ∧ Agree (fun q => q ≠ g) w w' := by
  obtain ⟨h1, h2, h3, h4, h5, h6, h7⟩ := hB
  rw [← hR]
  exact reader_params g a n c at_ k 0 I f D b w hS h1 h2 h3 h7 hat h5 h4 h6
theorem reader_read (hB : RdB w g a n c b) (hS : RdrAt w g a n c 0 0 0 (.slice none 0 0) [] 0 [])
    (hD : peekB b 0 = 27 → peekB b 1 = 80 → (rdRest b (rdParams b ⟨2, ⟨3, 0, [], [], 0, []⟩⟩)).at_ ≤ c) :
    Calls Tryd.prog 28 #[.pointer (some ⟨g, 0, none⟩)] w fun e w' => e = .returned (.tuple #[]) ∧
      ∃ pv, RdrAt w' g a n c (readB b).at_ (readB b).s.kind (readB b).s.priv pv (readB b).s.inter (readB b).s.final (readB b).s.data ∧ RdRowsS (fun q => w.heap.size ≤ q) w' pv (readB b).s.params ∧ Agree (fun q => q ≠ g) w w' := by
  have hn := hB.2.1
  have hn2 : n ≤ 900000 := hB.2.2.2.1
  have hnc : n ≤ c := by obtain ⟨⟨_, _, e, h, _⟩, hn, _⟩ := hB; injection e with _ e2 e3; rw [← e2] at h; omega
  have hN0 := Lib.hid (rdr_next g a n c b w 0 0 0 (.slice none 0 0) [] 0 [] hB hS (by omega))
  have HB := Lib.hid hB
  have hPk := Lib.hid (fun W hW hSW => rdr_peek g a n c b W 1 0 0 (.slice none 0 0) [] 0 [] (RdB.agree HB.out hW) hSW (by omega))
  have HRd := Lib.hid (show readB b = readB b from rfl)
  have hgl : g < w.heap.size := hS.lt
  have hup : ∀ (W W' W'' : World) (pv : Value) (L : List (List Int)), Agree (fun q => q ≠ g) w W → RdRowsS (fun q => W.heap.size ≤ q) W' pv L → Agree (fun q => q ≠ g) W' W'' → RdRowsS (fun q => w.heap.size ≤ q) W'' pv L :=
    fun W W' W'' pv L h1 h2 h3 => (h2.mono (fun q hq => Nat.le_trans h1.size hq)).agree (h3.mono (fun q _ hq => (show q ≠ g by have : w.heap.size ≤ q := hq; omega)))
  clear hB hS
  by_cases h0 : peekB b 0 = 27
  · by_cases h1 : peekB b 1 = 91
    · have hrd : readB b = rdRest b (rdParams b ⟨2, ⟨1, 0, [], [], 0, []⟩⟩) := by
        unfold readB; rw [if_neg (by simp [h0]), if_pos h1]; rfl
      have h2n : 2 ≤ n := by have := peekB_lt (b := b) (i := 1) (by rw [h1]; decide); omega
      have hRs := rdParams_s b 2 1 [] 0 []
      have hRa := rdParams_at b 2 ⟨1, 0, [], [], 0, []⟩ (by omega)
      rw [hrd]
      obtain ⟨R, hR⟩ : ∃ R, rdParams b ⟨2, ⟨1, 0, [], [], 0, []⟩⟩ = R := ⟨_, rfl⟩
      rw [hR] at hRs hRa ⊢
      rw [h0] at hN0
      rw [h1] at hPk
      have hPar := Lib.hid (fun W hW hSW => reader_par g a n c b W 2 1 [] 0 [] (RdB.agree HB.out hW) hSW h2n hR)
      have hRest := Lib.hid (fun W pv hW hSW => reader_rest g a n c b W R.at_ 1 R.s.priv pv [] 0 [] (RdB.agree HB.out hW) hSW (by omega))
      have HRS := Lib.hid hRs
      clear hRs hD h0 h1 hR
      go_enter Tryd.func28, Tryd.ntmps28
      go_wp2_with (first
        | (go_at_call 46; refine hN0.out.mono ?_; rintro e w1 ⟨rfl, hS1, hA1⟩)
        | (go_at_call 47; refine (hPk.out _ hA1 hS1).mono ?_; rintro e w2 ⟨rfl, hS2, hA2⟩; have c1 : w2.cell? ⟨g, 1, none⟩ = some (.int .i64 1) := hS2.c1; have f1 := hS2.fr 1; have c2 := hS2.c2; have f2 := hS2.fr 2)
        | (go_at_call 48; refine (hPar.out _ (agree_cell _ _ (agree_cell _ _ (hA1.trans hA2) 2 _) 1 _) ((hS2.set2 1).set1 2)).mono ?_; rintro e w3 ⟨rfl, pv, hS3, hP3, hA3⟩)
        | (go_at_call 49; refine (hRest.out _ pv ((agree_cell _ _ (agree_cell _ _ (hA1.trans hA2) 2 _) 1 _).trans hA3) hS3).mono ?_; rintro e w4 ⟨rfl, hS4, hA4⟩))
      refine ⟨rfl, _, results_none rfl _ _ _, rfl, pv, ?_, ?_, ?_⟩
      · unfold rdRest; rw [HRS.out]; exact hS4
      · unfold rdRest; exact hup _ _ _ _ _ (agree_cell _ _ (agree_cell _ _ (hA1.trans hA2) 2 _) 1 _) hP3 hA4
      · exact ((agree_cell _ _ (agree_cell _ _ (hA1.trans hA2) 2 _) 1 _).trans hA3).trans hA4
    · have hx1 : ((peekB b 1).toNat : Int) ≠ 91 := fun e => h1 (UInt8.toNat_inj.1 (by have : (91 : UInt8).toNat = 91 := rfl; omega))
      by_cases h2 : peekB b 1 = 79
      · have hrd : readB b = ⟨3, ⟨2, 0, [], [], peekB b 2, []⟩⟩ := by
          unfold readB; rw [if_neg (by simp [h0]), if_neg h1, if_pos h2]; rfl
        rw [hrd]
        rw [h0] at hN0
        rw [h2] at hPk
        have hNx := Lib.hid (fun W hW hSW => rdr_next g a n c b W 2 2 0 (.slice none 0 0) [] 0 [] (RdB.agree HB.out hW) hSW (by omega))
        generalize peekB b 2 = x at *
        clear hrd hD h0 h1 h2 hx1
        go_enter Tryd.func28, Tryd.ntmps28
        go_wp2_with (first
          | (go_at_call 46; refine hN0.out.mono ?_; rintro e w1 ⟨rfl, hS1, hA1⟩)
          | (go_at_call 47; refine (hPk.out _ hA1 hS1).mono ?_; rintro e w2 ⟨rfl, hS2, hA2⟩; have c1 : w2.cell? ⟨g, 1, none⟩ = some (.int .i64 1) := hS2.c1; have f1 := hS2.fr 1; have c2 := hS2.c2; have f2 := hS2.fr 2)
          | (go_at_call 46; refine (hNx.out _ (agree_cell _ _ (agree_cell _ _ (hA1.trans hA2) 2 _) 1 _) ((hS2.set2 2).set1 2)).mono ?_; rintro e w3 ⟨rfl, hS3, hA3⟩; have c6 := hS3.c6; have f6 := hS3.fr 6))
        exact ⟨rfl, _, results_none rfl _ _ _, rfl, _, hS3.set6 x, RdRowsS.nil _ _, agree_cell _ _ ((agree_cell _ _ (agree_cell _ _ (hA1.trans hA2) 2 _) 1 _).trans hA3) 6 _⟩
      · have hx2 : ((peekB b 1).toNat : Int) ≠ 79 := fun e => h2 (UInt8.toNat_inj.1 (by have : (79 : UInt8).toNat = 79 := rfl; omega))
        by_cases h3 : peekB b 1 = 80
        · have hrd : readB b = rdData b (rdRest b (rdParams b ⟨2, ⟨3, 0, [], [], 0, []⟩⟩)) := by
            unfold readB; rw [if_neg (by simp [h0]), if_neg h1, if_neg h2, if_pos h3]; rfl
          have h2n : 2 ≤ n := by have := peekB_lt (b := b) (i := 1) (by rw [h3]; decide); omega
          have hRs := rdParams_s b 2 3 [] 0 []
          have hRa := rdParams_at b 2 ⟨3, 0, [], [], 0, []⟩ (by omega)
          have hDc := hD h0 h3
          rw [hrd]
          obtain ⟨R, hR⟩ : ∃ R, rdParams b ⟨2, ⟨3, 0, [], [], 0, []⟩⟩ = R := ⟨_, rfl⟩
          rw [hR] at hRs hRa hDc ⊢
          rw [h0] at hN0
          rw [h3] at hPk
          have hT1 : R.at_ + (runB b R.at_ 32 47).length ≤ n := by have := runB_len_le b R.at_ 32 47 hRa; omega
          have hPar := Lib.hid (fun W hW hSW => reader_par g a n c b W 2 3 [] 0 [] (RdB.agree HB.out hW) hSW h2n hR)
          have hRest := Lib.hid (fun W pv hW hSW => reader_rest g a n c b W R.at_ 3 R.s.priv pv [] 0 [] (RdB.agree HB.out hW) hSW (by omega))
          have hRun := Lib.hid (fun W pv hW hSW => rdr_run g a n c b W (rdRest b R).at_ 3 R.s.priv pv (runB b R.at_ 32 47) (peekB b (R.at_ + (runB b R.at_ 32 47).length)) [] 32 126 (RdB.agree HB.out hW) hSW hDc)
          have hT2 : (rdRest b R).at_ + (runB b (rdRest b R).at_ 32 126).length ≤ 1000000 := by
            have h4 : (rdRest b R).at_ = R.at_ + (runB b R.at_ 32 47).length + 1 := rfl
            rcases Nat.lt_or_ge n (rdRest b R).at_ with hlt | hge
            · rw [runB_stop (by omega)]; simp only [List.length_nil]; omega
            · have := runB_len_le b (rdRest b R).at_ 32 126 (by omega); omega
          have HRS := Lib.hid hRs
          unfold rdData
          rw [show (rdRest b R).s = ⟨3, R.s.priv, R.s.params, runB b R.at_ 32 47, peekB b (R.at_ + (runB b R.at_ 32 47).length), []⟩ from by unfold rdRest; rw [HRS.out]]
          have hRA : (rdRest b R).at_ = R.at_ + (runB b R.at_ 32 47).length + 1 := rfl
          generalize (rdRest b R).at_ = m at *
          subst hRA
          generalize runB b (R.at_ + (runB b R.at_ 32 47).length + 1) 32 126 = DD at *
          generalize hm : R.at_ + (runB b R.at_ 32 47).length + 1 + DD.length = m at *
          have hmI : (m : Int) ≤ 1000000 := by omega
          have hm0 : (0 : Int) ≤ m := by omega
          clear hRs hD h0 h1 h2 h3 hx1 hx2 hR hrd hRa hDc hT1 hT2
          go_enter Tryd.func28, Tryd.ntmps28
          go_wp2_with (first
            | (go_at_call 46; refine hN0.out.mono ?_; rintro e w1 ⟨rfl, hS1, hA1⟩)
            | (go_at_call 47; refine (hPk.out _ hA1 hS1).mono ?_; rintro e w2 ⟨rfl, hS2, hA2⟩; have c1 : w2.cell? ⟨g, 1, none⟩ = some (.int .i64 1) := hS2.c1; have f1 := hS2.fr 1; have c2 := hS2.c2; have f2 := hS2.fr 2)
            | (go_at_call 48; refine (hPar.out _ (agree_cell _ _ (agree_cell _ _ (hA1.trans hA2) 2 _) 1 _) ((hS2.set2 3).set1 2)).mono ?_; rintro e w3 ⟨rfl, pv, hS3, hP3, hA3⟩)
            | (go_at_call 49; refine (hRest.out _ pv ((agree_cell _ _ (agree_cell _ _ (hA1.trans hA2) 2 _) 1 _).trans hA3) hS3).mono ?_; rintro e w4 ⟨rfl, hS4, hA4⟩)
            | (go_at_call 50; refine (hRun.out _ pv (((agree_cell _ _ (agree_cell _ _ (hA1.trans hA2) 2 _) 1 _).trans hA3).trans hA4) hS4).mono ?_; rintro e w5 ⟨rfl, hS5, hA5⟩; have c1 := hS5.c1; have f1 := hS5.fr 1; have c7 := hS5.c7; have f7 := hS5.fr 7))
          refine ⟨rfl, _, results_none rfl _ _ _, rfl, pv, ?_, ?_, ?_⟩
          · exact (hS5.set7 DD).set1 (m + 2)
          · exact hup _ _ _ _ _ (agree_cell _ _ (agree_cell _ _ (hA1.trans hA2) 2 _) 1 _) hP3 (agree_cell _ _ (agree_cell _ _ (hA4.trans hA5) 7 _) 1 _)
          · exact (((agree_cell _ _ (agree_cell _ _ (hA1.trans hA2) 2 _) 1 _).trans hA3).trans (agree_cell _ _ (agree_cell _ _ (hA4.trans hA5) 7 _) 1 _))
        · have hx3 : ((peekB b 1).toNat : Int) ≠ 80 := fun e => h3 (UInt8.toNat_inj.1 (by have : (80 : UInt8).toNat = 80 := rfl; omega))
          by_cases h4 : peekB b 1 = 93
          · have hrd : readB b = rdData b ⟨2, ⟨4, 0, [], [], 0, []⟩⟩ := by
              unfold readB; rw [if_neg (by simp [h0]), if_neg h1, if_neg h2, if_neg h3, if_pos h4]; rfl
            have h2n : 2 ≤ n := by have := peekB_lt (b := b) (i := 1) (by rw [h4]; decide); omega
            rw [hrd]
            rw [h0] at hN0
            rw [h4] at hPk
            have hRun := Lib.hid (fun W hW hSW => rdr_run g a n c b W 2 4 0 (.slice none 0 0) [] 0 [] 32 126 (RdB.agree HB.out hW) hSW (by omega))
            have hT2 : 2 + (runB b 2 32 126).length ≤ 1000000 := by
              have := runB_len_le b 2 32 126 (by omega); omega
            unfold rdData
            simp only []
            generalize runB b 2 32 126 = DD at *
            generalize hm : 2 + DD.length = m at *
            have hmI : (m : Int) ≤ 1000000 := by omega
            have hm0 : (0 : Int) ≤ m := by omega
            clear hD h0 h1 h2 h3 h4 hx1 hx2 hx3 hrd hT2
            go_enter Tryd.func28, Tryd.ntmps28
            go_wp2_with (first
              | (go_at_call 46; refine hN0.out.mono ?_; rintro e w1 ⟨rfl, hS1, hA1⟩)
              | (go_at_call 47; refine (hPk.out _ hA1 hS1).mono ?_; rintro e w2 ⟨rfl, hS2, hA2⟩; have c1 : w2.cell? ⟨g, 1, none⟩ = some (.int .i64 1) := hS2.c1; have f1 := hS2.fr 1; have c2 := hS2.c2; have f2 := hS2.fr 2)
              | (go_at_call 50; refine (hRun.out _ (agree_cell _ _ (agree_cell _ _ (hA1.trans hA2) 2 _) 1 _) ((hS2.set2 4).set1 2)).mono ?_; rintro e w5 ⟨rfl, hS5, hA5⟩; have c1 := hS5.c1; have f1 := hS5.fr 1; have c7 := hS5.c7; have f7 := hS5.fr 7))
            refine ⟨rfl, _, results_none rfl _ _ _, rfl, _, ?_, RdRowsS.nil _ _, ?_⟩
            · exact (hS5.set7 DD).set1 (m + 2)
            · exact (agree_cell _ _ (agree_cell _ _ ((agree_cell _ _ (agree_cell _ _ (hA1.trans hA2) 2 _) 1 _).trans hA5) 7 _) 1 _)
          · have hx4 : ((peekB b 1).toNat : Int) ≠ 93 := fun e => h4 (UInt8.toNat_inj.1 (by have : (93 : UInt8).toNat = 93 := rfl; omega))
            have hrd : readB b = rdRest b ⟨1, ⟨5, 0, [], [], 0, []⟩⟩ := by
              unfold readB; rw [if_neg (by simp [h0]), if_neg h1, if_neg h2, if_neg h3, if_neg h4]; rfl
            have h2n : 1 ≤ n := by have := peekB_lt (b := b) (i := 0) (by rw [h0]; decide); omega
            rw [hrd]
            rw [h0] at hN0
            have hRest := Lib.hid (fun W hW hSW => reader_rest g a n c b W 1 5 0 (.slice none 0 0) [] 0 [] (RdB.agree HB.out hW) hSW (by omega))
            generalize peekB b 1 = x at *
            clear hD h0 h1 h2 h3 h4 hrd
            go_enter Tryd.func28, Tryd.ntmps28
            go_wp2_with (first
              | (go_at_call 46; refine hN0.out.mono ?_; rintro e w1 ⟨rfl, hS1, hA1⟩)
              | (go_at_call 47; refine (hPk.out _ hA1 hS1).mono ?_; rintro e w2 ⟨rfl, hS2, hA2⟩; have c2 := hS2.c2; have f2 := hS2.fr 2)
              | (go_at_call 49; refine (hRest.out _ (agree_cell _ _ (hA1.trans hA2) 2 _) (hS2.set2 5)).mono ?_; rintro e w4 ⟨rfl, hS4, hA4⟩))
            exact ⟨rfl, _, results_none rfl _ _ _, rfl, _, hS4, RdRowsS.nil _ _, (agree_cell _ _ (hA1.trans hA2) 2 _).trans hA4⟩
  · have hrd : readB b = ⟨1, seq0⟩ := by unfold readB; rw [if_pos h0]
    rw [hrd]
    have hx : ((peekB b 0).toNat : Int) ≠ 27 := fun e => h0 (UInt8.toNat_inj.1 (by have : (27 : UInt8).toNat = 27 := rfl; omega))
    generalize peekB b 0 = x at *
    clear hrd h0 hD
    go_enter Tryd.func28, Tryd.ntmps28
    go_wp2_with (first
      | (go_at_call 46; refine hN0.out.mono ?_; rintro e w1 ⟨rfl, hS1, hA1⟩))
    exact ⟨rfl, _, results_none rfl _ _ _, rfl, _, hS1, RdRowsS.nil _ _, hA1⟩
end
end Go.Proofs.YthllkfbegdmdkaaDoor
