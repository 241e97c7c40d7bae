/- awake, of the laws of layer 12. -/
import Derived.Test.YthllkfbegdmdkaaDoorKey
import Derived.Test.YthllkfbegdmdkaaDoorBack
import Derived.Lib.SlBytesConst
namespace Go.Proofs.YthllkfbegdmdkaaDoor
open Go.RowKit
set_option linter.unusedSimpArgs false
set_option linter.unusedVariables false
set_option maxRecDepth 100000
set_option maxHeartbeats 8000000
attribute [local go_sem] Oper.semAt_some

def kI : KeyV := ⟨105, 4, 1, 0, 0, ⟨#[]⟩⟩
def mI (o : Int) : ModeV := ⟨false, false, false, false, false, false, false, 0, 0, o⟩
def l11 : BL := [27, 91, 50, 55, 59, 53, 59, 49, 48, 53, 126]
theorem keyB_I : keyB 2 kI = l11 := by kernel_rfl
theorem keyT_I : keyT 2 kI = true := by kernel_rfl
theorem keyT_I1 : keyT 1 kI = false := by kernel_rfl
theorem backB_I : backB l11 = (105, 4, true) := by kernel_rfl
theorem build_modes (o : Int) (w : World) : (Instr.build 23 #[(9, .int .i64 o)]).run Tryd.prog w = .ok (.agg #[.bool false, .bool false, .bool false, .bool false, .bool false, .bool false, .bool false, .int .i64 0, .int .i64 0, .int .i64 o]) w := by kernel_rfl
theorem build_key3 (a b c : Int) (w : World) : (Instr.build 25 #[(0, .int .i64 a), (1, .int .i64 b), (2, .int .i64 c)]).run Tryd.prog w = .ok (.agg #[.int .i64 a, .int .i64 b, .int .i64 c, .int .i64 0, .int .i64 0, .string ⟨#[]⟩]) w := by kernel_rfl
theorem kI_ok : kI.ok := by constructor <;> (unfold in64 kI; simp)
theorem key_I2 (w : World) (ht : Tab w) : Calls Tryd.prog 6 #[(mI 2).v, kI.v] w fun e w' => ∃ va vc, e = .returned (.tuple #[.slice va 11 vc, .bool true]) ∧ Rd .u8 w' (.slice va 11 vc) (bI l11) ∧ Below w.heap.size w w' := by
  refine (other_Key (mI 2) kI kI_ok (by decide) (by unfold in64 mI; simp) w ht).mono ?_
  rintro e w' ⟨v, rfl, hO, hb⟩
  rw [show keyB (mI 2).other kI = l11 from keyB_I] at hO
  rw [show keyT (mI 2).other kI = true from keyT_I]
  obtain ⟨va, vc, rfl⟩ := ownsRow_slice hO.2
  exact ⟨va, vc, rfl, hO.rd, hb⟩
theorem key_I1 (w : World) (ht : Tab w) : Calls Tryd.prog 6 #[(mI 1).v, kI.v] w fun e w' => ∃ v, e = .returned (.tuple #[v, .bool false]) ∧ Below w.heap.size w w' := by
  refine (other_Key (mI 1) kI kI_ok (by decide) (by unfold in64 mI; simp) w ht).mono ?_
  rintro e w' ⟨v, rfl, hO, hb⟩
  rw [show keyT (mI 1).other kI = false from keyT_I1]
  exact ⟨v, rfl, hb⟩
theorem rd_newF (k : IntKind) (w : World) (e : TypeId) (fr : Nat × Nat) (xs : List Int) (hl : xs.length ≤ 140737488355328) : Rd k (w.alloc (.cells (xs.map (Value.int k)).toArray e fr)) (.slice (some ⟨w.heap.size, 0, none⟩) xs.length xs.length) xs :=
  ⟨_, _, rfl, Nat.le_refl _, hl, .inr ⟨w.heap.size, 0, rfl, by rw [World.size_alloc]; exact Nat.lt_succ_self _, fun j hj => by rw [cell_of_row _ _ _ _ _ _ (heap_alloc_new w _)]; simp [List.getD_eq_getElem?_getD, hj]⟩⟩
theorem back_I (w : World) (ht : Tab w) : Calls Tryd.prog 12 #[.slice (some ⟨w.heap.size, 0, none⟩) 11 11] (w.alloc (.cells #[.int .u8 27, .int .u8 91, .int .u8 50, .int .u8 55, .int .u8 59, .int .u8 53, .int .u8 59, .int .u8 49, .int .u8 48, .int .u8 53, .int .u8 126] 5 (11, 12))) fun e w' => e = .returned (.tuple #[.int .i64 105, .int .i64 4, .bool true]) ∧ Below w.heap.size w w' := by
  have hr : Rd .u8 (w.alloc (.cells ((bI l11).map (Value.int .u8)).toArray 5 (11, 12))) (.slice (some ⟨w.heap.size, 0, none⟩) 11 11) (bI l11) := rd_newF .u8 w 5 (11, 12) (bI l11) (by decide)
  refine (other_Back (some ⟨w.heap.size, 0, none⟩) 11 11 l11 _ hr rfl (by decide) (by decide) (.inr ⟨_, _, rfl⟩) (ht.below (below_alloc (Below.refl _ _) _)) (fun q hq => by simp only [blkOf] at hq; rw [World.size_alloc]; omega) (fun _ h => absurd h (by decide))).mono ?_
  rintro e w' ⟨rfl, hb⟩
  rw [backB_I]
  exact ⟨rfl, below_then (below_alloc (Below.refl _ _) _) hb⟩
theorem law12_awake (w : World) (ht : Tab w) : Calls Tryd.prog 5 #[] w fun e w' => e = .returned (.bool true) ∧ Below w.heap.size w w' := by
  have hK2 := Lib.hid (fun W (hb : Below w.heap.size w W) => key_I2 W (ht.below hb))
  have hK1 := Lib.hid (fun W (hb : Below w.heap.size w W) => key_I1 W (ht.below hb))
  have hBk := Lib.hid (fun W (hb : Below w.heap.size w W) => back_I W (ht.below hb))
  clear ht
  have kc := fun (w : World) (C : Array Value) (n c : Nat) => Lib.run_convert_bytes_const (P := Tryd.prog) w 27 5 C n c Tryd.underlying27 Tryd.underlying5
  go_enter Tryd.func5, Tryd.ntmps5
  go_wp2_with (first
    | ((with_reducible apply wpList_build 23); exact rfl; exact rfl; apply build_modes; case hp => exact rfl)
    | ((with_reducible apply wpList_build 25); exact rfl; exact rfl; apply build_key3; case hp => exact rfl)
    | (go_at_call 6; refine (hK1.out _ (below_then hb1 hb2)).mono ?_; rintro e W3 ⟨v, rfl, hb3⟩; have hcv : (convert 27 9 (.slice va 11 vc)).run Tryd.prog W3 = .ok (.string ⟨#[27, 91, 50, 55, 59, 53, 59, 49, 48, 53, 126]⟩) W3 := conv_back l11 W3 va vc (hR1.below (below_then hb2 hb3)))
    | (go_at_call 12; refine (hBk.out _ hb1).mono ?_; rintro e W2 ⟨rfl, hb2⟩)
    | (go_at_call 6; refine (hK2.out _ (Below.refl _ _)).mono ?_; rintro e W1 ⟨va, vc, rfl, hR1, hb1⟩))
  go_ret
  exact ⟨rfl, below_then (below_then hb1 hb2) hb3⟩
end Go.Proofs.YthllkfbegdmdkaaDoor
