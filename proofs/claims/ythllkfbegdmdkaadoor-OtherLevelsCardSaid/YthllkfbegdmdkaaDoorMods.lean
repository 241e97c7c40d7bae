/- mods.Old, Param, Shown; other.plain, char, all. -/
import Derived.Test.YthllkfbegdmdkaaDoorLook
namespace Go.Proofs.YthllkfbegdmdkaaDoor
open Go.RowKit
set_option linter.unusedSimpArgs false
set_option linter.unusedVariables false
set_option maxRecDepth 100000
set_option maxHeartbeats 4000000

/-- A key's event. -/
structure KeyV where
  code : Int
  mods : Int
  type : Int
  shifted : Int
  base : Int
  text : ByteArray
def KeyV.v (k : KeyV) : Value := .agg #[.int .i64 k.code, .int .i64 k.mods, .int .i64 k.type, .int .i64 k.shifted, .int .i64 k.base, .string k.text]
def in64 (x : Int) : Prop := -9223372036854775808 ≤ x ∧ x ≤ 9223372036854775807
structure KeyV.ok (k : KeyV) : Prop where
  code : in64 k.code
  mods : in64 k.mods
  type : in64 k.type
  shifted : in64 k.shifted
  base : in64 k.base
theorem and_low (x : Int) (h : in64 x) (n : Nat) (hn : n < 63) (h0 : 0 ≤ x) : bits .and .i64 x ((2 : Int) ^ n - 1) = x % 2 ^ n :=
  bits_mask .i64 63 (by decide) (fun n a b => by rw [IntKind.wrap_i64]; unfold in64 at h; omega) n (by omega) x h0 (by unfold in64 at h; omega)
def oldM (m : Int) : Int := max m 0 % 8
def paramM (m : Int) : Int := if m < 0 ∨ 255 < m then 1 else m + 1
def shownK (k : KeyV) : Int := if max k.mods 0 % 2 = 0 then k.code else if k.shifted ≠ 0 then k.shifted else if 97 ≤ k.code ∧ k.code ≤ 122 then k.code - 32 else k.code
theorem in64_max {x : Int} (h : in64 x) : in64 (max x 0) ∧ 0 ≤ max x 0 := by unfold in64 at *; omega

theorem oldM_pos {m : Int} (h : in64 m) (h0 : 0 ≤ m) : bits .and .i64 m 7 = oldM m := by
  have := and_low m h 3 (by decide) h0
  rw [oldM, show max m 0 = m from by omega]; exact this
theorem oldM_neg {m : Int} (h0 : m ≤ 0) : oldM m = 0 := by rw [oldM, show max m 0 = 0 from by omega]; rfl
theorem and0 (n : Int) (h0 : 0 ≤ n) (h : n ≤ 1000) : bits .and .i64 0 n = 0 := by
  have h : ∀ k : Fin 1001, bits .and .i64 0 (k.val : Int) = 0 := by decide +kernel
  have := h ⟨n.toNat, by omega⟩
  rwa [show (((⟨n.toNat, by omega⟩ : Fin 1001).val : Nat) : Int) = n from by simp; omega] at this
theorem mods_Old (m : Int) (h : in64 m) (w : World) : Calls Tryd.prog 20 #[.int .i64 m] w fun e w' => e = .returned (.int .i64 (oldM m)) ∧ w = w' := by
  rcases (by omega : 0 < m ∨ m < 0 ∨ m = 0) with hm | hm | rfl
  · have hb := oldM_pos h (by omega : 0 ≤ m)
    generalize oldM m = x at hb ⊢
    go_enter Tryd.func20, Tryd.ntmps20
    go_wp2
    go_ret
    exact ⟨rfl, rfl⟩
  · have hb := oldM_neg (Int.le_of_lt hm)
    have h0 := and0 7 (by omega) (by omega)
    rw [hb]
    clear hb
    go_enter Tryd.func20, Tryd.ntmps20
    go_wp2
    go_ret
    exact ⟨rfl, rfl⟩
  · have h0 := and0 7 (by omega) (by omega)
    rw [show oldM 0 = 0 from rfl]
    go_enter Tryd.func20, Tryd.ntmps20
    go_wp2
    go_ret
    exact ⟨rfl, rfl⟩
theorem mods_Param (m : Int) (h : in64 m) (w : World) : Calls Tryd.prog 19 #[.int .i64 m] w fun e w' => e = .returned (.int .i64 (paramM m)) ∧ w = w' := by
  have hP : Hid (paramM m = if m < 0 ∨ 255 < m then 1 else m + 1) := rfl
  go_enter Tryd.func19, Tryd.ntmps19
  go_wp2
  all_goals
    go_ret
    rw [hP.out]
    first
    | (rw [if_pos (by omega)]; exact ⟨rfl, rfl⟩)
    | (rw [if_neg (by omega)]; exact ⟨rfl, rfl⟩)

set_option maxRecDepth 100000 in
set_option maxHeartbeats 4000000 in
theorem mods_Shown (k : KeyV) (h : k.ok) (w : World) : Calls Tryd.prog 33 #[k.v] w fun e w' => e = .returned (.int .i64 (shownK k)) ∧ Below w.heap.size w w' := by
  obtain ⟨code, mods, type, shifted, base, text⟩ := k
  have h1 : in64 code := h.code
  have h2 : in64 mods := h.mods
  unfold in64 at h1
  simp only [KeyV.v]
  have hS : Hid (shownK ⟨code, mods, type, shifted, base, text⟩ = if max mods 0 % 2 = 0 then code else if shifted ≠ 0 then shifted else if 97 ≤ code ∧ code ≤ 122 then code - 32 else code) := rfl
  generalize shownK ⟨code, mods, type, shifted, base, text⟩ = X at hS ⊢
  clear h
  rcases (by omega : 0 < mods ∨ mods < 0 ∨ mods = 0) with hm | hm | rfl
  · have hb : bits .and .i64 mods 1 = mods % 2 := and_low mods h2 1 (by decide) (by omega)
    rw [show max mods 0 = mods from by omega] at hS
    clear h2
    go_enter Tryd.func33, Tryd.ntmps33
    go_wp2
    all_goals
      go_ret
      refine ⟨?_, below_alloc (Below.refl _ _) _⟩
      rw [hS.out]
      refine Eq.trans (b := Ending.returned (Value.int .i64 _)) rfl (congrArg (fun x => Ending.returned (Value.int .i64 x)) ?_)
      clear hb
      (repeat' split) <;> first | omega | (exfalso; simp only [beq_iff_eq, bne_iff_ne, beq_eq_false_iff_ne, ne_eq, bne_eq_false_iff_eq] at *; omega)
  all_goals
    have h0 := and0 1 (by omega) (by omega)
    rw [show max _ 0 = (0 : Int) from by omega] at hS
    clear h2
    go_enter Tryd.func33, Tryd.ntmps33
    go_wp2
    all_goals
      go_ret
      exact ⟨by rw [hS.out]; rfl, below_alloc (Below.refl _ _) _⟩

theorem key_cells {w w2 : World} {a b c d e f : Value} {t : TypeId} (hb : Below (w.alloc (.cells #[a, b, c, d, e, f] t)).heap.size (w.alloc (.cells #[a, b, c, d, e, f] t)) w2) :
    w2.cell? ⟨w.heap.size, 0, none⟩ = some a ∧ w2.cell? ⟨w.heap.size, 1, none⟩ = some b ∧ w2.cell? ⟨w.heap.size, 2, none⟩ = some c ∧ w2.cell? ⟨w.heap.size, 3, none⟩ = some d ∧ w2.cell? ⟨w.heap.size, 4, none⟩ = some e ∧ w2.cell? ⟨w.heap.size, 5, none⟩ = some f := by
  have h := (hb.block w.heap.size (by simp)).trans (heap_alloc_new w _)
  refine ⟨?_, ?_, ?_, ?_, ?_, ?_⟩ <;> (rw [cell_of_row _ _ _ _ _ _ h]; rfl)
theorem field_kind : ∀ (a b c d e : Value) (W : World), (Instr.field 32 (.agg #[a, b, c, d, e]) 0).run Tryd.prog W = .ok a W := by intros; kernel_rfl
def plainK (k : KeyV) : Bool := (klook k.code).kind == 2
theorem other_plain (k : KeyV) (w : World) : Calls Tryd.prog 31 #[k.v] w fun e w' => e = .returned (.bool (plainK k)) ∧ Below w.heap.size w w' := by
  obtain ⟨code, mods, type, shifted, base, text⟩ := k
  simp only [KeyV.v, plainK]
  have hL := Lib.hid (keys_Look code)
  have hF := field_kind
  generalize klook code = L at hL ⊢
  obtain ⟨kd, fi, nu, ch, ke⟩ := L
  simp only [KEnt.v] at hL
  go_enter Tryd.func31, Tryd.ntmps31
  go_wp2_with (first | (go_at_call 8; refine (hL.out _).mono ?_; rintro e w2 ⟨rfl, hb2⟩; obtain ⟨q0, q1, q2, q3, q4, q5⟩ := key_cells hb2))
  go_ret
  exact ⟨rfl, below_then (below_alloc (Below.refl _ _) _) hb2⟩
/-- A key's character, if its kind has one. -/
def charK (k : KeyV) : Int × Bool := if (klook k.code).kind = 1 then (shownK k, true) else if (klook k.code).kind = 2 then (k.code, true) else (0, false)
theorem other_char (k : KeyV) (h : k.ok) (w : World) : Calls Tryd.prog 15 #[k.v] w fun e w' => e = .returned (.tuple #[.int .i64 (charK k).1, .bool (charK k).2]) ∧ Below w.heap.size w w' := by
  have hS := Lib.hid (mods_Shown k h)
  have hC : Hid (charK k = if (klook k.code).kind = 1 then (shownK k, true) else if (klook k.code).kind = 2 then (k.code, true) else (0, false)) := rfl
  generalize charK k = C at hC ⊢
  generalize shownK k = S at hS hC
  obtain ⟨code, mods, type, shifted, base, text⟩ := k
  simp only [KeyV.v] at hS hC ⊢
  have hL := Lib.hid (keys_Look code)
  have hF := field_kind
  generalize klook code = L at hL hC
  obtain ⟨kd, fi, nu, ch, ke⟩ := L
  simp only [KEnt.v] at hL hC
  go_enter Tryd.func15, Tryd.ntmps15
  rcases (by omega : kd = 1 ∨ kd = 2 ∨ (kd ≠ 1 ∧ kd ≠ 2)) with rfl | rfl | ⟨hk1, hk2⟩
  · go_wp2_with (first | (go_at_call 8; refine (hL.out _).mono ?_; rintro e w2 ⟨rfl, hb2⟩; obtain ⟨q0, q1, q2, q3, q4, q5⟩ := key_cells hb2) | (go_at_call 33; refine (hS.out _).mono ?_; rintro e w3 ⟨rfl, hb3⟩))
    go_ret2
    rw [hC.out]
    exact ⟨rfl, below_then (below_then (below_alloc (Below.refl _ _) _) hb2) hb3⟩
  · go_wp2_with (first | (go_at_call 8; refine (hL.out _).mono ?_; rintro e w2 ⟨rfl, hb2⟩; obtain ⟨q0, q1, q2, q3, q4, q5⟩ := key_cells hb2))
    go_ret2
    rw [hC.out]
    exact ⟨rfl, below_then (below_alloc (Below.refl _ _) _) hb2⟩
  · go_wp2_with (first | (go_at_call 8; refine (hL.out _).mono ?_; rintro e w2 ⟨rfl, hb2⟩; obtain ⟨q0, q1, q2, q3, q4, q5⟩ := key_cells hb2))
    go_ret2
    rw [hC.out, if_neg hk1, if_neg hk2]
    exact ⟨rfl, below_then (below_alloc (Below.refl _ _) _) hb2⟩
end Go.Proofs.YthllkfbegdmdkaaDoor
