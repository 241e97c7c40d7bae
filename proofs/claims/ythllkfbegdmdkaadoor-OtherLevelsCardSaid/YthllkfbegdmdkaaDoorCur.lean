/- wire's cursor: peek, next. -/
import Derived.Test.YthllkfbegdmdkaaDoorWNum
import Derived.Test.YthllkfbegdmdkaaDoorFirst
namespace Go.Proofs.YthllkfbegdmdkaaDoor
open Go.RowKit
set_option linter.unusedSimpArgs false
set_option linter.unusedVariables false
set_option maxRecDepth 100000
set_option maxHeartbeats 2000000

theorem peekB_end {b : BL} {i : Nat} (h : b.length ≤ i) : peekB b i = 0 := by
  unfold peekB; rw [List.getD_eq_getElem?_getD, List.getElem?_eq_none h]; rfl
theorem bI_getD (b : BL) (i : Nat) : (bI b).getD i 0 = ((peekB b i).toNat : Int) := by
  unfold bI peekB
  rw [List.getD_eq_getElem?_getD, List.getD_eq_getElem?_getD, List.getElem?_map]
  cases b[i]? <;> rfl
theorem cur_peek (g : Nat) (a : Option Addr) (n c at_ : Nat) (b : BL) (w : World) (h0 : w.cell? ⟨g, 0, none⟩ = some (.slice a n c)) (h1 : w.cell? ⟨g, 1, none⟩ = some (.int .i64 at_)) (hR : Rd .u8 w (.slice a n c) (bI b)) (hn : b.length = n) (hat : at_ ≤ 1000000000000000) :
    Calls Tryd.prog 47 #[.pointer (some ⟨g, 0, none⟩)] w fun e w' => e = .returned (.int .u8 (peekB b at_).toNat) ∧ ∃ q, w' = w.drewN q := by
  have hle := hR.le
  rw [bI_len, hn] at hle
  by_cases h : at_ < n
  · obtain ⟨bb, o, rfl, hlt, hc⟩ := hR.at (j := at_) (by rw [bI_len, hn]; exact h)
    rw [bI_getD] at hc
    generalize ((peekB b at_).toNat : Int) = x at hc ⊢
    have hI : (at_ : Int) < n := by omega
    clear hR hn
    go_enter Tryd.func47, Tryd.ntmps47
    go_wp2
    go_quiet (fail)
    go_wp2
    go_quiet (fail)
    go_wp2
    go_ret
    exact ⟨rfl, _, World.drewN_drewN _ _ _⟩
  · rw [peekB_end (by omega)]
    have hI : (n : Int) ≤ at_ := by omega
    clear hR hn
    go_enter Tryd.func47, Tryd.ntmps47
    go_wp2
    go_quiet (fail)
    go_wp2
    go_ret
    exact ⟨rfl, _, rfl⟩
theorem cur_next (g : Nat) (a : Option Addr) (n c at_ : Nat) (b : BL) (w : World) (h0 : w.cell? ⟨g, 0, none⟩ = some (.slice a n c)) (h1 : w.cell? ⟨g, 1, none⟩ = some (.int .i64 at_)) (hf : w.frozen? ⟨g, 1, none⟩ = false) (hR : Rd .u8 w (.slice a n c) (bI b)) (hn : b.length = n) (hat : at_ ≤ 1000000000000000) :
    Calls Tryd.prog 46 #[.pointer (some ⟨g, 0, none⟩)] w fun e w' => e = .returned (.int .u8 (peekB b at_).toNat) ∧ ∃ q, w' = (w.drewN q).setCell ⟨g, 1, none⟩ (.int .i64 ((at_ + 1 : Nat) : Int)) := by
  have hP := Lib.hid (cur_peek g a n c at_ b w h0 h1 hR hn hat)
  generalize ((peekB b at_).toNat : Int) = x at hP ⊢
  have hI : (at_ : Int) ≤ 1000000000000000 := by omega
  clear hR hn
  go_enter Tryd.func46, Tryd.ntmps46
  go_wp2_with (first | (go_at_call 47; refine hP.out.mono ?_; rintro e w2 ⟨rfl, q, rfl⟩))
  go_ret
  exact ⟨rfl, q, by simp⟩
theorem runB_stop {b : BL} {i : Nat} {lo hi : UInt8} (h : ¬ (i < b.length ∧ lo ≤ peekB b i ∧ peekB b i ≤ hi)) : runB b i lo hi = [] := by
  unfold runB
  by_cases hi' : i < b.length
  · rw [List.drop_eq_getElem_cons hi', List.takeWhile_cons]
    have : peekB b i = b[i] := by unfold peekB; rw [List.getD_eq_getElem?_getD, List.getElem?_eq_getElem hi']; rfl
    rw [← this, if_neg]
    intro h2
    simp only [Bool.and_eq_true, decide_eq_true_eq] at h2
    exact h ⟨hi', h2⟩
  · rw [List.drop_of_length_le (by omega)]; rfl
theorem runB_go {b : BL} {i : Nat} {lo hi : UInt8} (hi' : i < b.length) (h1 : lo ≤ peekB b i) (h2 : peekB b i ≤ hi) : runB b i lo hi = peekB b i :: runB b (i + 1) lo hi := by
  unfold runB
  rw [List.drop_eq_getElem_cons hi', List.takeWhile_cons]
  have : peekB b i = b[i] := by unfold peekB; rw [List.getD_eq_getElem?_getD, List.getElem?_eq_getElem hi']; rfl
  rw [← this, if_pos]
  simp [h1, h2]
theorem runB_len_le (b : BL) (i : Nat) (lo hi : UInt8) (h : i ≤ b.length) : i + (runB b i lo hi).length ≤ b.length := by
  have : (runB b i lo hi).length ≤ (b.drop i).length := by unfold runB; exact (List.takeWhile_sublist _).length_le
  rw [List.length_drop] at this
  omega
theorem runB_eq (b : BL) (i : Nat) (lo hi : UInt8) : runB b i lo hi = (b.drop i).take (runB b i lo hi).length := by
  unfold runB
  have := List.takeWhile_prefix (l := b.drop i) (fun c => decide (lo ≤ c) && decide (c ≤ hi))
  exact (List.prefix_iff_eq_take.1 this)
theorem conv_back (l : BL) (W : World) (a : Option Addr) (c : Nat) (h : Rd .u8 W (.slice a l.length c) (bI l)) :
    (convert 27 9 (.slice a l.length c)).run Tryd.prog W = .ok (.string (ba l)) W := by
  cases l with
  | nil =>
    cases a with
    | none =>
      show (convert 27 9 (.slice none 0 c)).run Tryd.prog W = _
      rw [run_convert_bytes_string (P := Tryd.prog) W 27 9 5 none 0 c Tryd.underlying27 Tryd.underlying5 Tryd.underlying9]; rfl
    | some ad => exact run_convert_bytes_back (P := Tryd.prog) W 27 9 5 ad c [] Tryd.underlying27 Tryd.underlying5 Tryd.underlying9 (fun j hj => by simp at hj)
  | cons x r =>
    obtain ⟨b, o, rfl, _, _⟩ := h.at (j := 0) (by rw [bI_len]; simp)
    refine run_convert_bytes_back (P := Tryd.prog) W 27 9 5 ⟨b, o, none⟩ c (x :: r) Tryd.underlying27 Tryd.underlying5 Tryd.underlying9 (fun j hj => ?_)
    obtain ⟨b1, o1, e, _, hc⟩ := h.at (j := j) (by rw [bI_len]; exact hj)
    injection e with e; injection e with e1 e2
    subst e1 e2
    rw [bI_getD] at hc
    have : peekB (x :: r) j = (x :: r)[j] := by unfold peekB; rw [List.getD_eq_getElem?_getD, List.getElem?_eq_getElem hj]; rfl
    rw [this] at hc
    have ea : (⟨b, o, none⟩ : Addr).add j = ⟨b, o + j, none⟩ := by unfold Addr.add; split <;> simp_all
    rw [ea]
    exact hc
theorem Rd.sub {w : World} {bb o n c : Nat} {b : BL} (h : Rd .u8 w (.slice (some ⟨bb, o, none⟩) n c) (bI b)) (i l : Nat) (hl : i + l ≤ c) (hil : l = 0 ∨ i + l ≤ b.length) :
    Rd .u8 w (.slice (if c = i then some ⟨bb, o, none⟩ else some ⟨bb, o + i, none⟩) ((b.drop i).take l).length (c - i)) (bI ((b.drop i).take l)) := by
  rcases Nat.eq_zero_or_pos l with rfl | hp
  · rw [List.take_zero]
    split
    · exact ⟨_, _, rfl, by simp [bI], by simp [bI], .inl rfl⟩
    · exact ⟨_, _, rfl, by simp [bI], by simp [bI], .inl rfl⟩
  · have hib : i + l ≤ b.length := by omega
    have hlen : ((b.drop i).take l).length = l := by rw [List.length_take, List.length_drop]; omega
    rw [if_neg (by omega), hlen]
    have hle := h.le
    rw [bI_len] at hle
    refine ⟨some ⟨bb, o + i, none⟩, c - i, by rw [bI_len, hlen], by rw [bI_len, hlen]; omega, by rw [bI_len, hlen]; omega, .inr ⟨bb, o + i, rfl, ?_, fun j hj => ?_⟩⟩
    · obtain ⟨b1, o1, e, hlt, _⟩ := h.at (j := 0) (by rw [bI_len]; omega)
      injection e with e; injection e with e1 e2
      subst e1; exact hlt
    · rw [bI_len, hlen] at hj
      obtain ⟨b1, o1, e, _, hc⟩ := h.at (j := i + j) (by rw [bI_len]; omega)
      injection e with e; injection e with e1 e2
      subst e1 e2
      rw [show o + i + j = o + (i + j) from by omega, hc, bI_getD, bI_getD]
      unfold peekB
      rw [List.getD_eq_getElem?_getD, List.getD_eq_getElem?_getD, List.getElem?_take_of_lt hj, List.getElem?_drop]
def InR (b : BL) (lo hi : UInt8) (j : Nat) : Prop := j < b.length ∧ lo ≤ peekB b j ∧ peekB b j ≤ hi
theorem runB_facts (b : BL) (lo hi : UInt8) : ∀ (L i : Nat), (runB b i lo hi).length = L → (∀ j, j < L → InR b lo hi (i + j)) ∧ ¬ InR b lo hi (i + L)
  | 0, i, h => by
    refine ⟨fun j hj => by omega, fun hc => ?_⟩
    have := runB_go hc.1 hc.2.1 hc.2.2
    rw [Nat.add_zero] at this
    rw [this] at h
    simp at h
  | L + 1, i, h => by
    by_cases hc : InR b lo hi i
    · rw [runB_go hc.1 hc.2.1 hc.2.2, List.length_cons] at h
      obtain ⟨h1, h2⟩ := runB_facts b lo hi L (i + 1) (by omega)
      refine ⟨fun j hj => ?_, by rw [show i + (L + 1) = i + 1 + L from by omega]; exact h2⟩
      rcases Nat.eq_zero_or_pos j with rfl | hp
      · exact hc
      · have := h1 (j - 1) (by omega)
        rwa [show i + 1 + (j - 1) = i + j from by omega] at this
    · rw [runB_stop hc] at h
      simp at h
/-- A reader, as it lies. -/
def RdrAt (w : World) (g : Nat) (a : Option Addr) (n c at_ : Nat) (k : Int) (p : UInt8) (pv : Value) (I : BL) (f : UInt8) (D : BL) : Prop :=
  w.heap[g]? = some (.cells #[.slice a n c, .int .i64 at_, .int .i64 k, .int .u8 p.toNat, pv, .string (ba I), .int .u8 f.toNat, .string (ba D)] 63 (0, 0))
section
variable {w : World} {g : Nat} {a : Option Addr} {n c at_ : Nat} {k : Int} {p : UInt8} {pv : Value} {I : BL} {f : UInt8} {D : BL}
theorem RdrAt.lt (h : RdrAt w g a n c at_ k p pv I f D) : g < w.heap.size := (Array.getElem?_eq_some_iff.1 h).1
theorem RdrAt.c0 (h : RdrAt w g a n c at_ k p pv I f D) : w.cell? ⟨g, 0, none⟩ = some (.slice a n c) := by rw [cell_of_row _ _ _ _ _ _ h]; rfl
theorem RdrAt.c1 (h : RdrAt w g a n c at_ k p pv I f D) : w.cell? ⟨g, 1, none⟩ = some (.int .i64 at_) := by rw [cell_of_row _ _ _ _ _ _ h]; rfl
theorem RdrAt.fr (h : RdrAt w g a n c at_ k p pv I f D) (j : Nat) : w.frozen? ⟨g, j, none⟩ = false := by simp [World.frozen?, show w.heap[g]? = _ from h]
theorem RdrAt.drewN (h : RdrAt w g a n c at_ k p pv I f D) (q : Nat) : RdrAt (w.drewN q) g a n c at_ k p pv I f D := by
  have : (w.drewN q).heap = w.heap := by
    have h := below_drewN (Below.refl w.heap.size w) q
    simp
  unfold RdrAt; rw [this]; exact h
theorem RdrAt.set1 (h : RdrAt w g a n c at_ k p pv I f D) (m : Nat) : RdrAt (w.setCell ⟨g, 1, none⟩ (.int .i64 (m : Int))) g a n c m k p pv I f D := row_setCell h 1 _
theorem agree_set (j : Nat) (v : Value) : Agree (fun k => k ≠ g) w (w.setCell ⟨g, j, none⟩ v) := (Agree.refl _ _).setCell (.inl (fun h => h rfl)) _
end
theorem cur_run (g : Nat) (a : Option Addr) (n c at_ : Nat) (k : Int) (p : UInt8) (pv : Value) (I : BL) (f : UInt8) (D : BL) (b : BL) (lo hi : UInt8) (w : World)
    (hS : RdrAt w g a n c at_ k p pv I f D) (hR : Rd .u8 w (.slice a n c) (bI b)) (hn : b.length = n) (hbg : ¬ blkOf (.slice a n c) g) (hat : at_ ≤ c) (hc : c ≤ 1000000000000000) (hA : (a = none ∧ c = 0) ∨ ∃ bb o, a = some ⟨bb, o, none⟩) :
    Calls Tryd.prog 50 #[.pointer (some ⟨g, 0, none⟩), .int .u8 lo.toNat, .int .u8 hi.toNat] w fun e w' => e = .returned (.string (ba (runB b at_ lo hi))) ∧
      RdrAt w' g a n c (at_ + (runB b at_ lo hi).length) k p pv I f D ∧ Agree (fun k => k ≠ g) w w' := by
  obtain ⟨L, hL⟩ : ∃ L, (runB b at_ lo hi).length = L := ⟨_, rfl⟩
  obtain ⟨hin, hout⟩ := runB_facts b lo hi L at_ hL
  have hle : at_ ≤ n → at_ + L ≤ n := fun h => by have := runB_len_le b at_ lo hi (by omega); omega
  have hgt : n < at_ → L = 0 := fun h => by rw [← hL, runB_stop (by omega)]; rfl
  have HIN := Lib.hid hin
  have HOUT := Lib.hid hout
  have HR := Lib.hid hR
  have HN := Lib.hid hn
  have HL := Lib.hid hL
  have HLE := Lib.hid hle
  have HGT := Lib.hid hgt
  have hc' : (c : Int) ≤ 1000000000000000 := by omega
  have hnc : n ≤ c := by obtain ⟨_, _, e, h, _⟩ := hR; injection e with _ e2 e3; rw [← e2] at h; omega
  have hLc : at_ + L ≤ c := by
    by_cases h : at_ ≤ n
    · have := hle h; omega
    · have := hgt (by omega); omega
  rw [hL]
  obtain ⟨S, hSt⟩ : ∃ S, ba (runB b at_ lo hi) = S := ⟨_, rfl⟩
  have HS := Lib.hid hSt
  rw [hSt]
  clear hin hout hR hn hL hle hgt hSt
  go_enter Tryd.func50, Tryd.ntmps50
  have g1 := hS.c1
  go_wp2
  go_loopg [] (L + 1) (fun gk wr => ∃ i : Nat, i ≤ L ∧ L - i < gk ∧ RdrAt wr g a n c (at_ + i) k p pv I f D ∧ Agree (fun k => k ≠ g) w wr)
  case atStart => exact ⟨0, by omega, by omega, hS, Agree.refl _ _⟩
  case round =>
    obtain ⟨i, hi1, hi2, hSr, hag⟩ := hrel
    obtain ⟨m, hm⟩ : ∃ m, at_ + i = m := ⟨_, rfl⟩
    have HM := Lib.hid hm
    rw [hm] at hSr
    have r0 := hSr.c0
    have r1 := hSr.c1
    have rf := hSr.fr 1
    have HSr := Lib.hid hSr
    have HRr : Hid (Rd .u8 wr (.slice a n c) (bI b)) := HR.out.agree (fun x hx => by rintro rfl; exact hbg hx) hag
    have hm15 : (m : Int) ≤ 1000000000000000 := by omega
    by_cases hiL : i < L
    · obtain ⟨q1, q2, q3⟩ := HIN.out i hiL
      rw [hm] at q1 q2 q3
      rw [HN.out] at q1
      obtain ⟨bb, o, rfl, hlt, hcell⟩ := HRr.out.at (j := m) (by rw [bI_len, HN.out]; exact q1)
      rw [bI_getD] at hcell
      rw [le_u8] at q2 q3
      generalize (peekB b m).toNat = x at hcell q2 q3
      have hI : (m : Int) < n := by omega
      have q2' : (lo.toNat : Int) ≤ x := by omega
      have q3' : (x : Int) ≤ hi.toNat := by omega
      have HIL := Lib.hid hiL
      clear hSr q2 q3 hm hS g1 HIN HOUT hiL
      go_wp2
      go_quiet (fail)
      go_wp2
      go_roundg (L - i)
      case measure => have := HIL.out; omega
      case rel =>
        have hmm : ((m + 1 : Nat) : Int) = (m : Int) + 1 := by omega
        rw [← hmm]
        refine ⟨i + 1, by have := HIL.out; omega, by have := HIL.out; omega, ?_, hag.trans (((Agree.refl _ _).drewN _).trans (agree_set 1 _))⟩
        rw [show at_ + (i + 1) = m + 1 from by have := HM.out; omega]
        exact (HSr.out.drewN _).set1 (m + 1)
    · obtain rfl : i = L := by omega
      have hmc : (m : Int) ≤ c := by omega
      have ham : (at_ : Int) ≤ m := by omega
      have HO := HOUT.out
      rw [hm] at HO
      have hstop : (n : Int) ≤ m ∨ ((m : Int) < n ∧ ((peekB b m).toNat : Int) < lo.toNat) ∨ ((m : Int) < n ∧ (lo.toNat : Int) ≤ ((peekB b m).toNat : Int) ∧ (hi.toNat : Int) < ((peekB b m).toNat : Int)) := by
        unfold InR at HO
        rw [HN.out, le_u8, le_u8] at HO
        omega
      have hcell : ∀ h : m < n, ∃ bb o, a = some ⟨bb, o, none⟩ ∧ wr.cell? ⟨bb, o + m, none⟩ = some (.int .u8 (peekB b m).toNat) := fun h => by
        obtain ⟨bb, o, e, _, hc⟩ := HRr.out.at (j := m) (by rw [bI_len, HN.out]; exact h)
        rw [bI_getD] at hc
        exact ⟨bb, o, e, hc⟩
      have hml : m - at_ = i := by omega
      have hsub : i = 0 ∨ at_ + i ≤ b.length := by
        by_cases h : at_ ≤ n
        · exact .inr (by have := HLE.out h; have := HN.out; omega)
        · exact .inl (HGT.out (by omega))
      have hlen : ((b.drop at_).take i).length = i := by
        rw [List.length_take, List.length_drop]; omega
      have hSeq : S = ba ((b.drop at_).take i) := by rw [← HS.out, runB_eq, HL.out]
      have hcv1 : ∀ bb o, a = some ⟨bb, o, none⟩ → ∀ q, (convert 27 9 (.slice (if c = at_ then some ⟨bb, o, none⟩ else some ⟨bb, o + at_, none⟩) (m - at_) (c - at_))).run Tryd.prog (wr.drewN q) = .ok (.string S) (wr.drewN q) := by
        rintro bb o rfl q
        have h1 := (HRr.out.below (below_drewN (Below.refl wr.heap.size wr) q)).sub at_ i (by omega) hsub
        have h2 : ∀ ad, Rd .u8 (wr.drewN q) (.slice ad ((b.drop at_).take i).length (c - at_)) (bI ((b.drop at_).take i)) → (convert 27 9 (.slice ad (m - at_) (c - at_))).run Tryd.prog (wr.drewN q) = .ok (.string S) (wr.drewN q) := fun ad h => by
          have h3 := conv_back _ _ _ _ h
          rw [hlen] at h3
          rw [hml, hSeq]; exact h3
        exact h2 _ h1
      have hcv0 : c = 0 → ∀ q, (convert 27 9 (.slice none 0 0)).run Tryd.prog (wr.drewN q) = .ok (.string S) (wr.drewN q) := by
        intro hc0 q
        have hi0 : i = 0 := by omega
        rw [hSeq, hi0, List.take_zero]
        exact conv_back [] _ none 0 ⟨none, 0, rfl, Nat.zero_le _, Nat.zero_le _, .inl rfl⟩
      have fin : ∀ q, Ending.returned (Value.string S) = Ending.returned (Value.string S) ∧ RdrAt (wr.drewN q) g a n c (at_ + i) k p pv I f D ∧ Agree (fun k => k ≠ g) w (wr.drewN q) := fun q =>
        ⟨rfl, by rw [hm]; exact hSr.drewN q, hag.trans ((Agree.refl _ _).drewN q)⟩
      clear hSr hm hS g1 HIN HOUT hiL HO hml hsub hlen hSeq
      generalize (peekB b m).toNat = x at hcell hstop
      rcases hstop with q1 | ⟨q1, q2⟩ | ⟨q1, q2, q3⟩
      · clear hcell
        have d1 : decide (m < n) = false := by simp; omega
        rcases hA with ⟨rfl, rfl⟩ | ⟨bb, o, rfl⟩
        · have hm0 : m = 0 := by omega
          have ha0 : at_ = 0 := by omega
          subst hm0 ha0
          have hcv := hcv0 rfl
          clear hcv0 hcv1
          go_wp2
          go_quiet (fail)
          go_wp2
          go_quiet (fail)
          go_wp2
          all_goals
            go_ret
            first | exact ⟨rfl, (fin _).2⟩ | (rw [World.drewN_drewN]; exact ⟨rfl, (fin _).2⟩) | (have hca : c = at_ := (by assumption); subst hca; exact ⟨rfl, (fin _).2⟩)
        · have hcv := hcv1 bb o rfl
          clear hcv0 hcv1
          go_wp2
          go_quiet (fail)
          go_wp2
          go_quiet (fail)
          go_wp2
          all_goals
            go_ret
            first | exact ⟨rfl, (fin _).2⟩ | (rw [World.drewN_drewN]; exact ⟨rfl, (fin _).2⟩) | (have hca : c = at_ := (by assumption); subst hca; exact ⟨rfl, (fin _).2⟩)
      · obtain ⟨bb, o, rfl, hc1⟩ := hcell (by omega)
        have d1 : decide (lo.toNat ≤ x) = false := by simp; omega
        have hcv := hcv1 bb o rfl
        clear hcell hcv0 hcv1
        go_wp2
        go_quiet (fail)
        go_wp2
        go_quiet (fail)
        go_wp2
        all_goals
          go_ret
          first | exact ⟨rfl, (fin _).2⟩ | (rw [World.drewN_drewN]; exact ⟨rfl, (fin _).2⟩) | (have hca : c = at_ := (by assumption); subst hca; exact ⟨rfl, (fin _).2⟩)
      · obtain ⟨bb, o, rfl, hc1⟩ := hcell (by omega)
        have d1 : decide (x ≤ hi.toNat) = false := by simp; omega
        have hcv := hcv1 bb o rfl
        clear hcell hcv0 hcv1
        go_wp2
        go_quiet (fail)
        go_wp2
        go_quiet (fail)
        go_wp2
        all_goals
          go_ret
          first | exact ⟨rfl, (fin _).2⟩ | (rw [World.drewN_drewN]; exact ⟨rfl, (fin _).2⟩) | (have hca : c = at_ := (by assumption); subst hca; exact ⟨rfl, (fin _).2⟩)
end Go.Proofs.YthllkfbegdmdkaaDoor
