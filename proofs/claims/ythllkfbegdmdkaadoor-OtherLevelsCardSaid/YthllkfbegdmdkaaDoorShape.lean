/- wire.shaped. -/
import Derived.Test.YthllkfbegdmdkaaDoorFirst
namespace Go.Proofs.YthllkfbegdmdkaaDoor
open Go.RowKit
set_option linter.unusedSimpArgs false
set_option linter.unusedVariables false
set_option maxRecDepth 100000
set_option maxHeartbeats 4000000

def SeqS.v (s : SeqS) (pv : Value) : Value := .agg #[.int .i64 s.kind, .int .u8 s.priv.toNat, pv, .string (ba s.inter), .int .u8 s.final.toNat, .string (ba s.data)]
def shapeI (kind P n : Int) (ie de : Bool) (F : Int) (ct : Bool) : Bool :=
  if kind = 1 then de && decide (64 ≤ F) && decide (F ≤ 126)
  else if kind = 3 then decide (64 ≤ F) && decide (F ≤ 126)
  else if kind = 2 then (P == 0 && n == 0) && ie && de && decide (64 ≤ F) && decide (F ≤ 126)
  else if kind = 4 then (P == 0 && n == 0) && ie && (F == 0)
  else if kind = 5 then (P == 0 && n == 0) && de && (!ie || !ct) && decide (48 ≤ F) && decide (F ≤ 126)
  else false
theorem u8_eq0 (x : UInt8) : (x == 0) = ((x.toNat : Int) == 0) := by
  rw [Bool.eq_iff_iff, beq_iff_eq, beq_iff_eq]
  constructor
  · rintro rfl; rfl
  · intro h
    exact UInt8.toNat_inj.1 (by simp; omega)
theorem u8_le (k : UInt8) (x : UInt8) : decide (k ≤ x) = decide ((k.toNat : Int) ≤ x.toNat) := by
  rw [Bool.eq_iff_iff, decide_eq_true_eq, decide_eq_true_eq, le_u8]; omega
theorem len_eq0 {α : Type} (l : List α) : l.isEmpty = ((l.length : Int) == 0) := by
  cases l with
  | nil => rfl
  | cons x r => simp; omega
theorem shapeB_eq (s : SeqS) : shapeB s = shapeI s.kind s.priv.toNat s.params.length s.inter.isEmpty s.data.isEmpty s.final.toNat (firstsL.contains s.final) := by
  unfold shapeB shapeI plainB
  rw [u8_eq0, u8_eq0, u8_le, u8_le, u8_le, len_eq0 s.params]
  rfl
theorem ba_empty (l : BL) : (ba l).toList.isEmpty = l.isEmpty := by rw [Lib.toList_data, ba_data]
theorem wire_shaped (s : SeqS) (a : Option Addr) (c : Nat) (w : World) :
    Calls Tryd.prog 57 #[s.v (.slice a s.params.length c)] w fun e w' => e = .returned (.bool (shapeB s)) ∧ Below w.heap.size w w' := by
  have hS : Hid (shapeB s = shapeI s.kind s.priv.toNat s.params.length s.inter.isEmpty s.data.isEmpty s.final.toNat (firstsL.contains s.final)) := shapeB_eq s
  have hC := Lib.hid (fun w => contains_first s.final w)
  have hi := Lib.hid (ba_empty s.inter)
  have hd := Lib.hid (ba_empty s.data)
  have hF := s.final.toNat_lt
  unfold SeqS.v
  generalize shapeB s = X at hS ⊢
  generalize firstsL.contains s.final = ct at hS hC
  generalize s.inter.isEmpty = ie at hS hi
  generalize s.data.isEmpty = de at hS hd
  generalize ba s.inter = I at hi ⊢
  generalize ba s.data = D at hd ⊢
  obtain ⟨F, hF'⟩ : ∃ F : Int, F = s.final.toNat := ⟨_, rfl⟩
  rw [← hF'] at hS hC ⊢
  have hF0 : 0 ≤ F := by omega
  have hF1 : F ≤ 255 := by omega
  clear hF hF'
  generalize (s.priv.toNat : Int) = P at hS ⊢
  generalize s.params.length = n at hS ⊢
  generalize s.kind = k at hS ⊢
  go_enter Tryd.func57, Tryd.ntmps57
  go_wp2_with (first | (go_at_call 68; refine (hC.out _).mono ?_; rintro e w2 ⟨rfl, hb2⟩; obtain ⟨q0, q1, q2, q3, q4, q5⟩ := key_cells hb2))
  all_goals
    go_ret
    refine ⟨Eq.trans (b := Ending.returned (Value.bool _)) rfl (congrArg (fun b => Ending.returned (Value.bool b)) ?_), by first | exact below_then (below_alloc (Below.refl _ _) _) hb2 | exact below_alloc (Below.refl _ _) _⟩
    rw [hS.out, ← hi.out, ← hd.out]
    clear hS hC hi hd
    simp only [beq_iff_eq, beq_eq_false_iff_ne, ne_eq] at *
    unfold shapeI
    simp_all
    try omega
end Go.Proofs.YthllkfbegdmdkaaDoor
