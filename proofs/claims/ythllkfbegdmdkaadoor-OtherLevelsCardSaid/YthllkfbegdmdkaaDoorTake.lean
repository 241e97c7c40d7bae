import Derived.Test.YthllkfbegdmdkaaDoorUtf
import Derived.Test.YthllkfbegdmdkaaDoorEq
import Derived.Deep.LoopGhost
import Derived.Deep.QuietTactic
import Derived.BigQuiet
import Derived.Deep.RegionHeld3
namespace Go.Proofs.YthllkfbegdmdkaaDoor
open Go.RowKit
set_option linter.unusedSimpArgs false
set_option linter.unusedVariables false

def mism (c : Int) : Nat → Bool
  | 1 => decide (128 ≤ c)
  | 2 => decide (c < 192 ∨ 224 ≤ c)
  | 3 => decide (c < 224 ∨ 240 ≤ c)
  | _ => decide (c < 240 ∨ 248 ≤ c)
theorem mism1 (x : Int) (h0 : 0 ≤ x) (h1 : x ≤ 255) : (bits .andNot .u8 x 127 != 0) = mism x 1 := by
  have h : ∀ n : Fin 256, (bits .andNot .u8 (n.val : Int) 127 != 0) = mism (n.val : Int) 1 := by decide +kernel
  have := h ⟨x.toNat, by omega⟩
  rwa [show ((x.toNat : Nat) : Int) = x from by omega] at this
theorem mism2 (x : Int) (h0 : 0 ≤ x) (h1 : x ≤ 255) : (bits .andNot .u8 x 31 != 192) = mism x 2 := by
  have h : ∀ n : Fin 256, (bits .andNot .u8 (n.val : Int) 31 != 192) = mism (n.val : Int) 2 := by decide +kernel
  have := h ⟨x.toNat, by omega⟩
  rwa [show ((x.toNat : Nat) : Int) = x from by omega] at this
theorem mism3 (x : Int) (h0 : 0 ≤ x) (h1 : x ≤ 255) : (bits .andNot .u8 x 15 != 224) = mism x 3 := by
  have h : ∀ n : Fin 256, (bits .andNot .u8 (n.val : Int) 15 != 224) = mism (n.val : Int) 3 := by decide +kernel
  have := h ⟨x.toNat, by omega⟩
  rwa [show ((x.toNat : Nat) : Int) = x from by omega] at this
theorem mism4 (x : Int) (h0 : 0 ≤ x) (h1 : x ≤ 255) : (bits .andNot .u8 x 7 != 240) = mism x 4 := by
  have h : ∀ n : Fin 256, (bits .andNot .u8 (n.val : Int) 7 != 240) = mism (n.val : Int) 4 := by decide +kernel
  have := h ⟨x.toNat, by omega⟩
  rwa [show ((x.toNat : Nat) : Int) = x from by omega] at this
theorem and127 (x : Int) (h0 : 0 ≤ x) (h1 : x < 128) : bits .and .u8 x 127 = x := by
  have h : ∀ n : Fin 128, bits .and .u8 (n.val : Int) 127 = (n.val : Int) := by decide +kernel
  have := h ⟨x.toNat, by omega⟩
  rwa [show ((x.toNat : Nat) : Int) = x from by omega] at this
theorem or6 (r c : Int) (h0 : 0 ≤ r) (h1 : r < 1048576) (h2 : 0 ≤ c) (h3 : c < 64) : bits .or .i64 (r * 64) c = r * 64 + c :=
  bits_join .i64 40 (by decide) (fun n a b => by rw [IntKind.wrap_i64]; omega) 6 _ _ (by omega) (by omega) (by omega) h2 (by omega) (by omega)
def candN (b : List Int) : Nat → Int
  | 1 => b.getD 0 0
  | 2 => b.getD 0 0 % 32 * 64 + b.getD 1 0 % 64
  | 3 => (b.getD 0 0 % 16 * 64 + b.getD 1 0 % 64) * 64 + b.getD 2 0 % 64
  | _ => ((b.getD 0 0 % 8 * 64 + b.getD 1 0 % 64) * 64 + b.getD 2 0 % 64) * 64 + b.getD 3 0 % 64
def tryN (b : List Int) (k : Nat) : Bool := decide (k ≤ b.length) && !mism (b.getD 0 0) k && decide (utfPut (candN b k) = b.take k)
def utfTake (b : List Int) : Int × Nat :=
  if tryN b 1 then (candN b 1, 1) else if tryN b 2 then (candN b 2, 2) else if tryN b 3 then (candN b 3, 3) else if tryN b 4 then (candN b 4, 4) else (0, 0)

theorem take_skip {b : List Int} {j : Nat} (h : ∀ i, i < j → tryN b (i + 1) = false) {i : Nat} (hi : i < j + 1) (hj : tryN b (j + 1) = false) : tryN b (i + 1) = false := by
  rcases Nat.lt_or_ge i j with h1 | h1
  · exact h i h1
  · have : i = j := by omega
    subst this
    exact hj
theorem take_hit1 {b : List Int} (_ : ∀ i, i < 0 → tryN b (i + 1) = false) (h : tryN b 1 = true) : utfTake b = (candN b 1, 1) := by rw [utfTake, if_pos h]
theorem take_hit2 {b : List Int} (h0 : ∀ i, i < 1 → tryN b (i + 1) = false) (h : tryN b 2 = true) : utfTake b = (candN b 2, 2) := by
  rw [utfTake, if_neg (by rw [h0 0 (by omega)]; simp), if_pos h]
theorem take_hit3 {b : List Int} (h0 : ∀ i, i < 2 → tryN b (i + 1) = false) (h : tryN b 3 = true) : utfTake b = (candN b 3, 3) := by
  rw [utfTake, if_neg (by rw [h0 0 (by omega)]; simp), if_neg (by rw [h0 1 (by omega)]; simp), if_pos h]
theorem take_hit4 {b : List Int} (h0 : ∀ i, i < 3 → tryN b (i + 1) = false) (h : tryN b 4 = true) : utfTake b = (candN b 4, 4) := by
  rw [utfTake, if_neg (by rw [h0 0 (by omega)]; simp), if_neg (by rw [h0 1 (by omega)]; simp), if_neg (by rw [h0 2 (by omega)]; simp), if_pos h]
theorem take_none {b : List Int} (h0 : ∀ i, i < 4 → tryN b (i + 1) = false) : utfTake b = (0, 0) := by
  rw [utfTake, if_neg (by rw [h0 0 (by omega)]; simp), if_neg (by rw [h0 1 (by omega)]; simp), if_neg (by rw [h0 2 (by omega)]; simp), if_neg (by rw [h0 3 (by omega)]; simp)]
set_option maxRecDepth 100000 in
set_option maxHeartbeats 4000000 in
theorem utf_Take_at (bb o n c : Nat) (b : List Int) (w : World) (hn : b.length = n) (hlt : bb < w.heap.size) (hbig : n ≤ 140737488355328) (hnc : n ≤ c) (hc : ∀ j, j < n → w.cell? ⟨bb, o + j, none⟩ = some (.int .u8 (b.getD j 0))) (hr : ∀ j, 0 ≤ b.getD j 0 ∧ b.getD j 0 ≤ 255) (hpos : 0 < n) :
    Calls Tryd.prog 63 #[.slice (some ⟨bb, o, none⟩) n c] w fun e w' => e = .returned (.tuple #[.int .i64 (utfTake b).1, .int .i64 (utfTake b).2]) ∧ Below w.heap.size w w' := by
  have a0 := size_at0; have a1 := size_at1; have a2 := size_at2; have a3 := size_at3
  have HB := Lib.hid (show Rd .u8 w (.slice (some ⟨bb, o, none⟩) n c) b from ⟨_, c, by rw [hn], by omega, by omega, .inr ⟨bb, o, rfl, hlt, fun j hj => hc j (by omega)⟩⟩)
  have HN := Lib.hid hn; have HR := Lib.hid hr; have HC := Lib.hid hc
  clear hn hr hc
  go_enter Tryd.func63, Tryd.ntmps63
  go_wp2_with (first | (go_at_call 43; refine (utf_sizes _).mono ?_; rintro e w1 ⟨rfl, hb1⟩))
  go_loopg [10] 5 (fun g s10 wr => ∃ j : Nat, j ≤ 4 ∧ 4 - j < g ∧ (j = 0 ∧ s10 = .int .i64 0 ∨ j = 1 ∧ s10 = .int .i64 1 ∨ j = 2 ∧ s10 = .int .i64 2 ∨ j = 3 ∧ s10 = .int .i64 3 ∨ j = 4 ∧ s10 = .int .i64 4) ∧ Below w.heap.size w wr ∧ Hid (∀ i, i < j → tryN b (i + 1) = false))
  case atStart => exact ⟨0, by omega, by omega, .inl ⟨rfl, rfl⟩, hb1, fun i hi => absurd hi (Nat.not_lt_zero _)⟩
  case round =>
    obtain ⟨j, hj, hg, hj5, hb, HT⟩ := hrel
    have hz := hb.size
    clear hj
    rcases hj5 with ⟨rfl, rfl⟩ | ⟨rfl, rfl⟩ | ⟨rfl, rfl⟩ | ⟨rfl, rfl⟩ | ⟨rfl, rfl⟩
    · -- k = 1
      by_cases hk : n < 1
      · omega
      · have hk' : ¬ ((n : Int) < 1) := by omega
        have hkd : decide ((n : Int) < 1) = false := by simpa using hk'
        have hkc : ¬ ((c : Int) < 1) := by omega
        have hlt' : bb < wr.heap.size := by omega
        have c0 : wr.cell? ⟨bb, o, none⟩ = some (.int .u8 (b.getD 0 0)) := (hb.cell (p := ⟨bb, o, none⟩) hlt).trans (HC.out 0 (by omega))
        obtain ⟨hr0, hr1⟩ := HR.out 0
        have HT' := HT; clear HT
        generalize hx : b.getD 0 0 = x at c0 hr0 hr1
        have HX := Lib.hid hx; clear hx
        have HM := Lib.hid (mism1 x hr0 hr1)
        cases hmm : (bits .andNot .u8 x 127 != 0)
        · rw [hmm] at HM
          have hB : x < 128 := by
            have h := HM.out.symm
            simp [mism] at h
            omega
          have h127 := and127 x hr0 hB

          rcases (show c = 1 ∨ ¬ c = 1 from by omega) with rfl | hc1
          all_goals
            go_wp2_with fail
            go_quiet (fail)
            go_wp2_with fail
            go_quiet (fail)
            go_wp2_with fail
            refine wp_loop_rounds 1 ?_
            iterate 1 (rw [rounds_succ]; go_wp2)
            go_region_held3 (fun W => W.cell? ⟨wr.heap.size, 0, none⟩ = some (.int .i64 1))
              (first | exact hs3 | exact hs2 | go_keep)
              (first | (go_at_call 22; refine (utf_Put _ _).mono ?_; rintro e w2 ⟨v, rfl, ho, hb2⟩; have hs2 : w2.cell? ⟨wr.heap.size, 0, none⟩ = some (.int .i64 1) := (hb2.cell (p := ⟨wr.heap.size, 0, none⟩) (by simp)).trans (by simp); have hRk := (HB.out.take 1 (by omega)).below (w' := w2) (below_then (by repeat (first | exact hb | apply below_alloc | apply below_drewN | apply below_drew)) hb2)) | (go_at_call 75; refine (equal_bytes _ _ _ _ _ ho.rd hRk).mono ?_; rintro e w3 ⟨rfl, hb3⟩; have hs3 : w3.cell? ⟨wr.heap.size, 0, none⟩ = some (.int .i64 1) := (hb3.cell (p := ⟨wr.heap.size, 0, none⟩) (by have h := hb2.size; simp at h; show wr.heap.size < w2.heap.size; omega)).trans hs2))
            go_wp2_with fail
            · have hE : utfPut (x) = b.take 1 := by assumption
              have hcand : candN b 1 = x := by simp only [candN, HX.out]
              have HF := Lib.hid (show utfTake b = (x, 1) by
                rw [← hcand]
                exact take_hit1 HT'.out (by rw [tryN, HN.out, decide_eq_true (by omega), HX.out, ← HM.out, hcand, decide_eq_true hE]; rfl))
              clear hE hcand
              go_quiet (fail)
              go_wp2
              go_ret2
              rw [HF.out]
              exact ⟨rfl, below_drewN (below_then (below_then (by repeat (first | exact hb | apply below_alloc | apply below_drewN | apply below_drew)) hb2) hb3) _⟩
            · have hE : ¬ utfPut (x) = b.take 1 := by assumption
              have hcand : candN b 1 = x := by simp only [candN, HX.out]
              have HF := Lib.hid (show tryN b 1 = false by rw [tryN, hcand, decide_eq_false hE, Bool.and_false])
              clear hE hcand
              go_wp2
              go_roundg 4
              case measure => omega
              case rel => exact ⟨1, by omega, by omega, by simp, below_then (below_then (by repeat (first | exact hb | apply below_alloc | apply below_drewN | apply below_drew)) hb2) hb3, fun i hi => take_skip HT'.out hi HF.out⟩
        · rw [hmm] at HM
          go_wp2_with fail
          go_quiet (fail)
          go_wp2
          go_roundg 4
          case measure => omega
          case rel => exact ⟨1, by omega, by omega, by simp, by repeat (first | exact hb | apply below_alloc | apply below_drewN), fun i hi => take_skip HT'.out hi (by rw [tryN, HX.out, ← HM.out]; simp)⟩
    · -- k = 2
      by_cases hk : n < 2
      · have hk' : ((n : Int) < 2) := by omega
        go_wp2_with fail
        go_quiet (fail)
        go_wp2
        go_roundg 3
        case measure => omega
        case rel => exact ⟨2, by omega, by omega, by simp, by repeat (first | exact hb | apply below_alloc | apply below_drewN), fun i hi => take_skip HT.out hi (by rw [tryN, HN.out, decide_eq_false (by omega)]; rfl)⟩
      · have hk' : ¬ ((n : Int) < 2) := by omega
        have hkd : decide ((n : Int) < 2) = false := by simpa using hk'
        have hkc : ¬ ((c : Int) < 2) := by omega
        have hlt' : bb < wr.heap.size := by omega
        have c0 : wr.cell? ⟨bb, o, none⟩ = some (.int .u8 (b.getD 0 0)) := (hb.cell (p := ⟨bb, o, none⟩) hlt).trans (HC.out 0 (by omega))
        obtain ⟨hr0, hr1⟩ := HR.out 0
        have c1 : wr.cell? ⟨bb, o + 1, none⟩ = some (.int .u8 (b.getD 1 0)) := (hb.cell (p := ⟨bb, o + 1, none⟩) hlt).trans (HC.out 1 (by omega))
        obtain ⟨hq1, hs1⟩ := HR.out 1
        generalize hx1 : b.getD 1 0 = x1 at c1 hq1 hs1
        have HX1 := Lib.hid hx1; clear hx1
        have HT' := HT; clear HT
        generalize hx : b.getD 0 0 = x at c0 hr0 hr1
        have HX := Lib.hid hx; clear hx
        have HM := Lib.hid (mism2 x hr0 hr1)
        cases hmm : (bits .andNot .u8 x 31 != 192)
        · rw [hmm] at HM
          have hB : 192 ≤ x ∧ x < 224 := by
            have h := HM.out.symm
            simp [mism] at h
            omega
          obtain ⟨hB0, hB1⟩ := hB
          have o1 := or6 (x % 32) (x1 % 64) (by omega) (by omega) (by omega) (by omega)
          skip
          all_goals
            go_wp2_with fail
            go_quiet (fail)
            go_wp2_with fail
            go_quiet (fail)
            go_wp2_with fail
            refine wp_loop_rounds 2 ?_
            iterate 2 (rw [rounds_succ]; go_wp2)
            go_region_held3 (fun W => W.cell? ⟨wr.heap.size, 0, none⟩ = some (.int .i64 2))
              (first | exact hs3 | exact hs2 | go_keep)
              (first | (go_at_call 22; refine (utf_Put _ _).mono ?_; rintro e w2 ⟨v, rfl, ho, hb2⟩; have hs2 : w2.cell? ⟨wr.heap.size, 0, none⟩ = some (.int .i64 2) := (hb2.cell (p := ⟨wr.heap.size, 0, none⟩) (by simp)).trans (by simp); have hRk := (HB.out.take 2 (by omega)).below (w' := w2) (below_then (by repeat (first | exact hb | apply below_alloc | apply below_drewN | apply below_drew)) hb2)) | (go_at_call 75; refine (equal_bytes _ _ _ _ _ ho.rd hRk).mono ?_; rintro e w3 ⟨rfl, hb3⟩; have hs3 : w3.cell? ⟨wr.heap.size, 0, none⟩ = some (.int .i64 2) := (hb3.cell (p := ⟨wr.heap.size, 0, none⟩) (by have h := hb2.size; simp at h; show wr.heap.size < w2.heap.size; omega)).trans hs2))
            go_wp2_with fail
            · have hE : utfPut (x % 32 * 64 + x1 % 64) = b.take 2 := by assumption
              have hcand : candN b 2 = x % 32 * 64 + x1 % 64 := by simp only [candN, HX.out, HX1.out]
              have HF := Lib.hid (show utfTake b = (x % 32 * 64 + x1 % 64, 2) by
                rw [← hcand]
                exact take_hit2 HT'.out (by rw [tryN, HN.out, decide_eq_true (by omega), HX.out, ← HM.out, hcand, decide_eq_true hE]; rfl))
              clear hE hcand
              go_quiet (fail)
              go_wp2
              go_ret2
              rw [HF.out]
              exact ⟨rfl, below_drewN (below_then (below_then (by repeat (first | exact hb | apply below_alloc | apply below_drewN | apply below_drew)) hb2) hb3) _⟩
            · have hE : ¬ utfPut (x % 32 * 64 + x1 % 64) = b.take 2 := by assumption
              have hcand : candN b 2 = x % 32 * 64 + x1 % 64 := by simp only [candN, HX.out, HX1.out]
              have HF := Lib.hid (show tryN b 2 = false by rw [tryN, hcand, decide_eq_false hE, Bool.and_false])
              clear hE hcand
              go_wp2
              go_roundg 3
              case measure => omega
              case rel => exact ⟨2, by omega, by omega, by simp, below_then (below_then (by repeat (first | exact hb | apply below_alloc | apply below_drewN | apply below_drew)) hb2) hb3, fun i hi => take_skip HT'.out hi HF.out⟩
        · rw [hmm] at HM
          go_wp2_with fail
          go_quiet (fail)
          go_wp2
          go_roundg 3
          case measure => omega
          case rel => exact ⟨2, by omega, by omega, by simp, by repeat (first | exact hb | apply below_alloc | apply below_drewN), fun i hi => take_skip HT'.out hi (by rw [tryN, HX.out, ← HM.out]; simp)⟩
    · -- k = 3
      by_cases hk : n < 3
      · have hk' : ((n : Int) < 3) := by omega
        go_wp2_with fail
        go_quiet (fail)
        go_wp2
        go_roundg 2
        case measure => omega
        case rel => exact ⟨3, by omega, by omega, by simp, by repeat (first | exact hb | apply below_alloc | apply below_drewN), fun i hi => take_skip HT.out hi (by rw [tryN, HN.out, decide_eq_false (by omega)]; rfl)⟩
      · have hk' : ¬ ((n : Int) < 3) := by omega
        have hkd : decide ((n : Int) < 3) = false := by simpa using hk'
        have hkc : ¬ ((c : Int) < 3) := by omega
        have hlt' : bb < wr.heap.size := by omega
        have c0 : wr.cell? ⟨bb, o, none⟩ = some (.int .u8 (b.getD 0 0)) := (hb.cell (p := ⟨bb, o, none⟩) hlt).trans (HC.out 0 (by omega))
        obtain ⟨hr0, hr1⟩ := HR.out 0
        have c1 : wr.cell? ⟨bb, o + 1, none⟩ = some (.int .u8 (b.getD 1 0)) := (hb.cell (p := ⟨bb, o + 1, none⟩) hlt).trans (HC.out 1 (by omega))
        obtain ⟨hq1, hs1⟩ := HR.out 1
        generalize hx1 : b.getD 1 0 = x1 at c1 hq1 hs1
        have HX1 := Lib.hid hx1; clear hx1
        have c2 : wr.cell? ⟨bb, o + 2, none⟩ = some (.int .u8 (b.getD 2 0)) := (hb.cell (p := ⟨bb, o + 2, none⟩) hlt).trans (HC.out 2 (by omega))
        obtain ⟨hq2, hs2⟩ := HR.out 2
        generalize hx2 : b.getD 2 0 = x2 at c2 hq2 hs2
        have HX2 := Lib.hid hx2; clear hx2
        have HT' := HT; clear HT
        generalize hx : b.getD 0 0 = x at c0 hr0 hr1
        have HX := Lib.hid hx; clear hx
        have HM := Lib.hid (mism3 x hr0 hr1)
        cases hmm : (bits .andNot .u8 x 15 != 224)
        · rw [hmm] at HM
          have hB : 224 ≤ x ∧ x < 240 := by
            have h := HM.out.symm
            simp [mism] at h
            omega
          obtain ⟨hB0, hB1⟩ := hB
          have o1 := or6 (x % 16) (x1 % 64) (by omega) (by omega) (by omega) (by omega); have o2 := or6 (x % 16 * 64 + x1 % 64) (x2 % 64) (by omega) (by omega) (by omega) (by omega)
          skip
          all_goals
            go_wp2_with fail
            go_quiet (fail)
            go_wp2_with fail
            go_quiet (fail)
            go_wp2_with fail
            refine wp_loop_rounds 3 ?_
            iterate 3 (rw [rounds_succ]; go_wp2)
            go_region_held3 (fun W => W.cell? ⟨wr.heap.size, 0, none⟩ = some (.int .i64 3))
              (first | exact hs3 | exact hs2 | go_keep)
              (first | (go_at_call 22; refine (utf_Put _ _).mono ?_; rintro e w2 ⟨v, rfl, ho, hb2⟩; have hs2 : w2.cell? ⟨wr.heap.size, 0, none⟩ = some (.int .i64 3) := (hb2.cell (p := ⟨wr.heap.size, 0, none⟩) (by simp)).trans (by simp); have hRk := (HB.out.take 3 (by omega)).below (w' := w2) (below_then (by repeat (first | exact hb | apply below_alloc | apply below_drewN | apply below_drew)) hb2)) | (go_at_call 75; refine (equal_bytes _ _ _ _ _ ho.rd hRk).mono ?_; rintro e w3 ⟨rfl, hb3⟩; have hs3 : w3.cell? ⟨wr.heap.size, 0, none⟩ = some (.int .i64 3) := (hb3.cell (p := ⟨wr.heap.size, 0, none⟩) (by have h := hb2.size; simp at h; show wr.heap.size < w2.heap.size; omega)).trans hs2))
            go_wp2_with fail
            · have hE : utfPut ((x % 16 * 64 + x1 % 64) * 64 + x2 % 64) = b.take 3 := by assumption
              have hcand : candN b 3 = (x % 16 * 64 + x1 % 64) * 64 + x2 % 64 := by simp only [candN, HX.out, HX1.out, HX2.out]
              have HF := Lib.hid (show utfTake b = ((x % 16 * 64 + x1 % 64) * 64 + x2 % 64, 3) by
                rw [← hcand]
                exact take_hit3 HT'.out (by rw [tryN, HN.out, decide_eq_true (by omega), HX.out, ← HM.out, hcand, decide_eq_true hE]; rfl))
              clear hE hcand
              go_quiet (fail)
              go_wp2
              go_ret2
              rw [HF.out]
              exact ⟨rfl, below_drewN (below_then (below_then (by repeat (first | exact hb | apply below_alloc | apply below_drewN | apply below_drew)) hb2) hb3) _⟩
            · have hE : ¬ utfPut ((x % 16 * 64 + x1 % 64) * 64 + x2 % 64) = b.take 3 := by assumption
              have hcand : candN b 3 = (x % 16 * 64 + x1 % 64) * 64 + x2 % 64 := by simp only [candN, HX.out, HX1.out, HX2.out]
              have HF := Lib.hid (show tryN b 3 = false by rw [tryN, hcand, decide_eq_false hE, Bool.and_false])
              clear hE hcand
              go_wp2
              go_roundg 2
              case measure => omega
              case rel => exact ⟨3, by omega, by omega, by simp, below_then (below_then (by repeat (first | exact hb | apply below_alloc | apply below_drewN | apply below_drew)) hb2) hb3, fun i hi => take_skip HT'.out hi HF.out⟩
        · rw [hmm] at HM
          go_wp2_with fail
          go_quiet (fail)
          go_wp2
          go_roundg 2
          case measure => omega
          case rel => exact ⟨3, by omega, by omega, by simp, by repeat (first | exact hb | apply below_alloc | apply below_drewN), fun i hi => take_skip HT'.out hi (by rw [tryN, HX.out, ← HM.out]; simp)⟩
    · -- k = 4
      by_cases hk : n < 4
      · have hk' : ((n : Int) < 4) := by omega
        go_wp2_with fail
        go_quiet (fail)
        go_wp2
        go_roundg 1
        case measure => omega
        case rel => exact ⟨4, by omega, by omega, by simp, by repeat (first | exact hb | apply below_alloc | apply below_drewN), fun i hi => take_skip HT.out hi (by rw [tryN, HN.out, decide_eq_false (by omega)]; rfl)⟩
      · have hk' : ¬ ((n : Int) < 4) := by omega
        have hkd : decide ((n : Int) < 4) = false := by simpa using hk'
        have hkc : ¬ ((c : Int) < 4) := by omega
        have hlt' : bb < wr.heap.size := by omega
        have c0 : wr.cell? ⟨bb, o, none⟩ = some (.int .u8 (b.getD 0 0)) := (hb.cell (p := ⟨bb, o, none⟩) hlt).trans (HC.out 0 (by omega))
        obtain ⟨hr0, hr1⟩ := HR.out 0
        have c1 : wr.cell? ⟨bb, o + 1, none⟩ = some (.int .u8 (b.getD 1 0)) := (hb.cell (p := ⟨bb, o + 1, none⟩) hlt).trans (HC.out 1 (by omega))
        obtain ⟨hq1, hs1⟩ := HR.out 1
        generalize hx1 : b.getD 1 0 = x1 at c1 hq1 hs1
        have HX1 := Lib.hid hx1; clear hx1
        have c2 : wr.cell? ⟨bb, o + 2, none⟩ = some (.int .u8 (b.getD 2 0)) := (hb.cell (p := ⟨bb, o + 2, none⟩) hlt).trans (HC.out 2 (by omega))
        obtain ⟨hq2, hs2⟩ := HR.out 2
        generalize hx2 : b.getD 2 0 = x2 at c2 hq2 hs2
        have HX2 := Lib.hid hx2; clear hx2
        have c3 : wr.cell? ⟨bb, o + 3, none⟩ = some (.int .u8 (b.getD 3 0)) := (hb.cell (p := ⟨bb, o + 3, none⟩) hlt).trans (HC.out 3 (by omega))
        obtain ⟨hq3, hs3⟩ := HR.out 3
        generalize hx3 : b.getD 3 0 = x3 at c3 hq3 hs3
        have HX3 := Lib.hid hx3; clear hx3
        have HT' := HT; clear HT
        generalize hx : b.getD 0 0 = x at c0 hr0 hr1
        have HX := Lib.hid hx; clear hx
        have HM := Lib.hid (mism4 x hr0 hr1)
        cases hmm : (bits .andNot .u8 x 7 != 240)
        · rw [hmm] at HM
          have hB : 240 ≤ x ∧ x < 248 := by
            have h := HM.out.symm
            simp [mism] at h
            omega
          obtain ⟨hB0, hB1⟩ := hB
          have o1 := or6 (x % 8) (x1 % 64) (by omega) (by omega) (by omega) (by omega); have o2 := or6 (x % 8 * 64 + x1 % 64) (x2 % 64) (by omega) (by omega) (by omega) (by omega); have o3 := or6 ((x % 8 * 64 + x1 % 64) * 64 + x2 % 64) (x3 % 64) (by omega) (by omega) (by omega) (by omega)
          skip
          all_goals
            go_wp2_with fail
            go_quiet (fail)
            go_wp2_with fail
            go_quiet (fail)
            go_wp2_with fail
            refine wp_loop_rounds 4 ?_
            iterate 4 (rw [rounds_succ]; go_wp2)
            go_region_held3 (fun W => W.cell? ⟨wr.heap.size, 0, none⟩ = some (.int .i64 4))
              (first | exact hs3 | exact hs2 | go_keep)
              (first | (go_at_call 22; refine (utf_Put _ _).mono ?_; rintro e w2 ⟨v, rfl, ho, hb2⟩; have hs2 : w2.cell? ⟨wr.heap.size, 0, none⟩ = some (.int .i64 4) := (hb2.cell (p := ⟨wr.heap.size, 0, none⟩) (by simp)).trans (by simp); have hRk := (HB.out.take 4 (by omega)).below (w' := w2) (below_then (by repeat (first | exact hb | apply below_alloc | apply below_drewN | apply below_drew)) hb2)) | (go_at_call 75; refine (equal_bytes _ _ _ _ _ ho.rd hRk).mono ?_; rintro e w3 ⟨rfl, hb3⟩; have hs3 : w3.cell? ⟨wr.heap.size, 0, none⟩ = some (.int .i64 4) := (hb3.cell (p := ⟨wr.heap.size, 0, none⟩) (by have h := hb2.size; simp at h; show wr.heap.size < w2.heap.size; omega)).trans hs2))
            go_wp2_with fail
            · have hE : utfPut (((x % 8 * 64 + x1 % 64) * 64 + x2 % 64) * 64 + x3 % 64) = b.take 4 := by assumption
              have hcand : candN b 4 = ((x % 8 * 64 + x1 % 64) * 64 + x2 % 64) * 64 + x3 % 64 := by simp only [candN, HX.out, HX1.out, HX2.out, HX3.out]
              have HF := Lib.hid (show utfTake b = (((x % 8 * 64 + x1 % 64) * 64 + x2 % 64) * 64 + x3 % 64, 4) by
                rw [← hcand]
                exact take_hit4 HT'.out (by rw [tryN, HN.out, decide_eq_true (by omega), HX.out, ← HM.out, hcand, decide_eq_true hE]; rfl))
              clear hE hcand
              go_quiet (fail)
              go_wp2
              go_ret2
              rw [HF.out]
              exact ⟨rfl, below_drewN (below_then (below_then (by repeat (first | exact hb | apply below_alloc | apply below_drewN | apply below_drew)) hb2) hb3) _⟩
            · have hE : ¬ utfPut (((x % 8 * 64 + x1 % 64) * 64 + x2 % 64) * 64 + x3 % 64) = b.take 4 := by assumption
              have hcand : candN b 4 = ((x % 8 * 64 + x1 % 64) * 64 + x2 % 64) * 64 + x3 % 64 := by simp only [candN, HX.out, HX1.out, HX2.out, HX3.out]
              have HF := Lib.hid (show tryN b 4 = false by rw [tryN, hcand, decide_eq_false hE, Bool.and_false])
              clear hE hcand
              go_wp2
              go_roundg 1
              case measure => omega
              case rel => exact ⟨4, by omega, by omega, by simp, below_then (below_then (by repeat (first | exact hb | apply below_alloc | apply below_drewN | apply below_drew)) hb2) hb3, fun i hi => take_skip HT'.out hi HF.out⟩
        · rw [hmm] at HM
          go_wp2_with fail
          go_quiet (fail)
          go_wp2
          go_roundg 1
          case measure => omega
          case rel => exact ⟨4, by omega, by omega, by simp, by repeat (first | exact hb | apply below_alloc | apply below_drewN), fun i hi => take_skip HT'.out hi (by rw [tryN, HX.out, ← HM.out]; simp)⟩
    · go_wp2
      go_ret2
      rw [take_none HT.out]
      exact ⟨rfl, hb⟩
end Go.Proofs.YthllkfbegdmdkaaDoor
