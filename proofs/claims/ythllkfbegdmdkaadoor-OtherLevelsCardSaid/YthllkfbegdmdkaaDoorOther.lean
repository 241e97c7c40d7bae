/- other.all, other.few. -/
import Derived.Test.YthllkfbegdmdkaaDoorFold
namespace Go.Proofs.YthllkfbegdmdkaaDoor
open Go.RowKit
set_option linter.unusedSimpArgs false
set_option linter.unusedVariables false
set_option maxRecDepth 100000
set_option maxHeartbeats 4000000

def allK (k : KeyV) : Bool := oldM k.mods != 0 && (plainK k || oldM k.mods != 1)
theorem other_all (k : KeyV) (h : k.ok) (w : World) : Calls Tryd.prog 14 #[k.v] w fun e w' => e = .returned (.bool (allK k)) ∧ Below w.heap.size w w' := by
  have hO := Lib.hid (mods_Old k.mods h.mods)
  have hP := Lib.hid (other_plain k)
  have hA : Hid (allK k = (oldM k.mods != 0 && (plainK k || oldM k.mods != 1))) := rfl
  generalize allK k = A at hA ⊢
  generalize plainK k = p at hP hA
  generalize oldM k.mods = m at hO hA
  clear h
  obtain ⟨code, mods, type, shifted, base, text⟩ := k
  simp only [KeyV.v] at hO hP hA ⊢
  go_enter Tryd.func14, Tryd.ntmps14
  rcases (by omega : m = 0 ∨ m = 1 ∨ (m ≠ 0 ∧ m ≠ 1)) with rfl | rfl | ⟨h0, h1⟩
  all_goals cases p
  all_goals
    go_wp2_with (first | (go_at_call 20; refine (hO.out _).mono ?_; rintro e w2 ⟨rfl, rfl⟩) | (go_at_call 31; refine (hP.out _).mono ?_; rintro e w3 ⟨rfl, hb3⟩))
  all_goals
    go_ret
    rw [hA.out]
    refine ⟨by simp_all, ?_⟩
    first
    | exact below_then (below_alloc (Below.refl _ _) _) hb3
    | exact below_alloc (Below.refl _ _) _

theorem and_bit (m : Int) (h : in64 m) (h0 : 0 ≤ m) (i : Nat) (hi : i < 62) : bits .and .i64 m ((2 : Int) ^ i) = m / 2 ^ i % 2 * 2 ^ i := by
  obtain ⟨a, rfl⟩ := Int.eq_ofNat_of_zero_le h0
  have ha : a < 2 ^ 63 := by unfold in64 at h; omega
  have hb : 2 ^ i < 2 ^ 63 := Nat.pow_lt_pow_right (by decide) (by omega)
  have e := (bits_nat .i64 63 (by decide) (fun n a b => by rw [IntKind.wrap_i64]; omega) a (2 ^ i) ha hb).1
  have e2 : a &&& 2 ^ i = a / 2 ^ i % 2 * 2 ^ i := by
    have h2 : a / 2 ^ i % 2 = 0 ∨ a / 2 ^ i % 2 = 1 := by omega
    have ht : a.testBit i = decide (a / 2 ^ i % 2 = 1) := Nat.testBit_eq_decide_div_mod_eq
    apply Nat.eq_of_testBit_eq
    intro j
    rw [Nat.testBit_and, Nat.testBit_two_pow]
    rcases h2 with h2 | h2
    · rw [h2] at ht ⊢
      simp only [Nat.zero_mul, Nat.zero_testBit]
      by_cases hj : i = j
      · subst hj; simp [ht]
      · simp [hj]
    · rw [h2] at ht ⊢
      rw [Nat.one_mul, Nat.testBit_two_pow]
      by_cases hj : i = j
      · subst hj; simp [ht]
      · simp [hj]
  rw [show ((2 : Int) ^ i) = ((2 ^ i : Nat) : Int) from by simp, e, e2]
  simp
theorem allK_pos {k : KeyV} (h : allK k = true) : 0 < k.mods := by
  simp only [allK, oldM, Bool.and_eq_true, bne_iff_ne] at h
  have := h.1
  omega
def fewK (k : KeyV) : Bool := allK k && (max k.mods 0 / 4 % 2 == 1) && (if plainK k then k.code == 9 || k.code == 13 else (max k.mods 0 % 2 == 1) || !(foldF (shownK k)).2)
theorem shown_in {k : KeyV} (h : k.ok) : in64 (shownK k) := by
  have h1 := h.code; have h2 := h.shifted
  unfold shownK
  unfold in64 at *
  repeat' split
  all_goals omega
theorem other_few (k : KeyV) (h : k.ok) (w : World) : Calls Tryd.prog 13 #[k.v] w fun e w' => e = .returned (.bool (fewK k)) ∧ Below w.heap.size w w' := by
  have hL := Lib.hid (other_all k h)
  have hP := Lib.hid (other_plain k)
  have hS := Lib.hid (mods_Shown k h)
  have hF := Lib.hid (mods_Fold (shownK k) (shown_in h))
  have hA : Hid (fewK k = (allK k && (max k.mods 0 / 4 % 2 == 1) && (if plainK k then k.code == 9 || k.code == 13 else (max k.mods 0 % 2 == 1) || !(foldF (shownK k)).2))) := rfl
  have hpos := fun h => @allK_pos k h
  have hm := h.mods
  generalize fewK k = X at hA ⊢
  generalize allK k = A at hA hL hpos
  generalize plainK k = p at hP hA
  generalize shownK k = S at hS hF hA
  generalize foldF S = f at hF hA
  obtain ⟨f1, f2⟩ := f
  clear h
  obtain ⟨code, mods, type, shifted, base, text⟩ := k
  simp only [KeyV.v] at hL hP hS hA hpos hm ⊢
  go_enter Tryd.func13, Tryd.ntmps13
  cases A
  · clear hpos hm
    go_wp2_with (first | (go_at_call 14; refine (hL.out _).mono ?_; rintro e w2 ⟨rfl, hb2⟩))
    go_ret
    rw [hA.out]
    exact ⟨rfl, below_then (below_alloc (Below.refl _ _) _) hb2⟩
  · have hmp := hpos rfl
    have b4 := and_bit mods hm (by omega) 2 (by decide)
    have b1 := and_low mods hm 1 (by decide) (by omega)
    rw [show max mods 0 = mods from by omega] at hA
    clear hpos hm
    have hc4 : mods / 4 % 2 = 0 ∨ mods / 4 % 2 = 1 := by omega
    have hc1 : mods % 2 = 0 ∨ mods % 2 = 1 := by omega
    have b4' : bits .and .i64 mods 4 = mods / 4 % 2 * 4 := b4
    have b1' : bits .and .i64 mods 1 = mods % 2 := b1
    clear b4 b1 hmp
    generalize mods / 4 % 2 = c4 at hA b4' hc4
    generalize mods % 2 = c1 at hA b1' hc1
    rcases hc4 with rfl | rfl
    · go_wp2_with (first | (go_at_call 14; refine (hL.out _).mono ?_; rintro e w2 ⟨rfl, hb2⟩; obtain ⟨q0, q1, q2, q3, q4, q5⟩ := key_cells hb2))
      go_ret
      rw [hA.out]
      exact ⟨rfl, below_then (below_alloc (Below.refl _ _) _) hb2⟩
    · rcases hc1 with rfl | rfl
      all_goals cases p
      all_goals
        go_wp2_with (first | (go_at_call 14; refine (hL.out _).mono ?_; rintro e w2 ⟨rfl, hb2⟩; obtain ⟨q0, q1, q2, q3, q4, q5⟩ := key_cells hb2) | (go_at_call 31; refine (hP.out _).mono ?_; rintro e w3 ⟨rfl, hb3⟩; obtain ⟨r0, r1, r2, r3, r4, r5⟩ := key_cells (below_then hb2 hb3)) | (go_at_call 33; refine (hS.out _).mono ?_; rintro e w4 ⟨rfl, hb4⟩) | (go_at_call 32; refine (hF.out _).mono ?_; rintro e w5 ⟨rfl, hb5⟩; obtain ⟨s0, s1, s2, s3, s4, s5⟩ := key_cells (below_then (below_then (below_then hb2 hb3) hb4) hb5)))
      all_goals
        go_ret
        rw [hA.out]
        refine ⟨by first | (simp; done) | (simp; omega), ?_⟩
        first
        | exact below_then (below_then (below_then (below_then (below_alloc (Below.refl _ _) _) hb2) hb3) hb4) hb5
        | exact below_then (below_then (below_alloc (Below.refl _ _) _) hb2) hb3
end Go.Proofs.YthllkfbegdmdkaaDoor
