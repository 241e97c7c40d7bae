/- wire.May. -/
import Derived.Test.YthllkfbegdmdkaaDoorShape
namespace Go.Proofs.YthllkfbegdmdkaaDoor
open Go.RowKit
set_option linter.unusedSimpArgs false
set_option linter.unusedVariables false
set_option maxRecDepth 100000
set_option maxHeartbeats 4000000

def mayI (P : Int) (nI nD : Nat) (b1 lb b2 sh : Bool) : Int :=
  if 4096 < nD then 4 else if (P == 0 || (decide (60 ≤ P) && decide (P ≤ 63))) && (decide (nI ≤ 2) && b1) && lb && b2 && sh then 0 else 1
theorem mayE_eq (s : SeqS) : mayE s = mayI s.priv.toNat (ba s.inter).size (ba s.data).size (betB 32 47 s.inter) (listB s.params) (betB 32 126 s.data) (shapeB s) := by
  unfold mayE mayI okB
  rw [ba_size, ba_size, u8_eq0, u8_le]
  have : decide (s.priv ≤ 63) = decide ((s.priv.toNat : Int) ≤ 63) := by
    rw [Bool.eq_iff_iff, decide_eq_true_eq, decide_eq_true_eq, le_u8]; simp; omega
  rw [this]
  rfl
theorem wire_May (s : SeqS) (pv : Value) (w : World) (hR : RdRows w pv s.params) :
    Calls Tryd.prog 36 #[s.v pv] w fun e w' => e = .returned (.int .i64 (mayE s)) ∧ Below w.heap.size w w' := by
  have hS : Hid (mayE s = mayI s.priv.toNat (ba s.inter).size (ba s.data).size (betB 32 47 s.inter) (listB s.params) (betB 32 126 s.data) (shapeB s)) := mayE_eq s
  have hB1 := Lib.hid (show ∀ w, Calls Tryd.prog 55 #[.string (ba s.inter), .int .u8 32, .int .u8 47] w (fun e w' => e = .returned (.bool (betB 32 47 s.inter)) ∧ Below w.heap.size w w') from fun w => wire_between s.inter 32 47 (by decide) w)
  have hB2 := Lib.hid (show ∀ w, Calls Tryd.prog 55 #[.string (ba s.data), .int .u8 32, .int .u8 126] w (fun e w' => e = .returned (.bool (betB 32 126 s.data)) ∧ Below w.heap.size w w') from fun w => wire_between s.data 32 126 (by decide) w)
  have hL := Lib.hid (fun w' (hb : Below w.heap.size w w') => wire_listed s.params pv w' (hR.below hb))
  obtain ⟨a, c, rfl⟩ := hR.len
  have hSh := Lib.hid (fun w => wire_shaped s a c w)
  clear hR
  unfold SeqS.v at hSh ⊢
  generalize mayE s = X at hS ⊢
  generalize betB 32 47 s.inter = b1 at hS hB1
  generalize betB 32 126 s.data = b2 at hS hB2
  generalize listB s.params = lb at hS hL
  generalize shapeB s = sh at hS hSh
  have hF := s.priv.toNat_lt
  generalize ba s.inter = I at *
  generalize ba s.data = D at *
  obtain ⟨P, hF'⟩ : ∃ P : Int, P = s.priv.toNat := ⟨_, rfl⟩
  rw [← hF'] at hS hSh ⊢
  have hF0 : 0 ≤ P := by omega
  have hF1 : P ≤ 255 := by omega
  clear hF hF'
  generalize (s.final.toNat : Int) = F at hSh ⊢
  generalize s.params.length = n at hSh hL ⊢
  generalize s.kind = k at hSh ⊢
  rcases (by omega : P = 0 ∨ P ≠ 0) with rfl | hP
  all_goals
    go_enter Tryd.func36, Tryd.ntmps36
    go_wp2_with (first
      | (go_at_call 55; ((with_reducible refine (hB1.out _).mono ?_); rintro e w2 ⟨rfl, hb2⟩; obtain ⟨q0, q1, q2, q3, q4, q5⟩ := key_cells hb2))
      | (go_at_call 56; ((with_reducible refine (hL.out _ (below_then (below_alloc (Below.refl _ _) _) hb2)).mono ?_); rintro e w3 ⟨rfl, hb3⟩; obtain ⟨r0, r1, r2, r3, r4, r5⟩ := key_cells (below_then hb2 hb3)))
      | (go_at_call 55; ((with_reducible refine (hB2.out _).mono ?_); rintro e w4 ⟨rfl, hb4⟩; obtain ⟨s0, s1, s2, s3, s4, s5⟩ := key_cells (below_then (below_then hb2 hb3) hb4)))
      | (go_at_call 57; ((with_reducible refine (hSh.out _).mono ?_); rintro e w5 ⟨rfl, hb5⟩)))
    all_goals
      go_ret
      refine ⟨Eq.trans (b := Ending.returned (Value.int .i64 _)) rfl (congrArg (fun b => Ending.returned (Value.int .i64 b)) ?_), by first | exact below_then (below_then (below_then (below_then (below_alloc (Below.refl _ _) _) hb2) hb3) hb4) hb5 | exact below_then (below_then (below_then (below_alloc (Below.refl _ _) _) hb2) hb3) hb4 | exact below_then (below_then (below_alloc (Below.refl _ _) _) hb2) hb3 | exact below_then (below_alloc (Below.refl _ _) _) hb2 | exact below_alloc (Below.refl _ _) _⟩
      rw [hS.out]
      clear hS hB1 hB2 hL hSh
      try simp only [beq_iff_eq, beq_eq_false_iff_ne, ne_eq] at *
      unfold mayI
      simp_all
      try omega
end Go.Proofs.YthllkfbegdmdkaaDoor
