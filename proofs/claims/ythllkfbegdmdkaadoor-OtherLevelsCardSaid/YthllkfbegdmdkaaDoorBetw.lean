/- wire.between. -/
import Derived.Test.YthllkfbegdmdkaaDoorWPure
import Derived.Test.YthllkfbegdmdkaaDoorBase
import Derived.Test.YthllkfbegdmdkaaDoorShelf
import Derived.RangeFuncBox
import Derived.Laws.RangeAny
import Derived.Laws.RangeString
namespace Go.Proofs.YthllkfbegdmdkaaDoor
open Go.RowKit Go.Shelf
set_option linter.unusedSimpArgs false
set_option linter.unusedVariables false
set_option maxRecDepth 100000
set_option maxHeartbeats 1000000

/-- A string's value. -/
def ba (l : BL) : ByteArray := ⟨l.toArray⟩
theorem ba_size (l : BL) : (ba l).size = l.length := by simp [ba, ByteArray.size]
theorem ba_data (l : BL) : (ba l).data.toList = l := by simp [ba]
theorem ba_of (s : ByteArray) : ba s.data.toList = s := by cases s; simp [ba]
def pOut (lo hi : UInt8) (r : Nat) : Bool := decide (r < lo.toNat) || decide (hi.toNat < r)
theorem idx_from (lo hi : UInt8) (h : hi.toNat < 128) (s : ByteArray) : ∀ (f pos : Nat), pos + f = s.size →
    decide (0 ≤ Lib.idxFuncFrom (pOut lo hi) true s f pos) = !betB lo hi (s.data.toList.drop pos)
  | 0, pos, hp => by
    rw [List.drop_of_length_le (by have : s.data.toList.length = s.size := by rw [Array.length_toList]; rfl
                                   omega)]
    simp [Lib.idxFuncFrom, betB]
  | f + 1, pos, hp => by
    have hlt : pos < s.size := by omega
    have hlt' : pos < s.data.toList.length := by
      have : s.data.toList.length = s.size := by rw [Array.length_toList]; rfl
      omega
    rw [List.drop_eq_getElem_cons hlt']
    have hc : s.data.toList[pos]'hlt' = s[pos]'hlt := by simp; rfl
    rw [hc]
    unfold Lib.idxFuncFrom
    rw [if_pos hlt]
    by_cases ha : (s[pos]'hlt).toNat < 128
    · rw [decode_ascii s pos hlt ha]
      simp only []
      have ih := idx_from lo hi h s f (pos + 1) (by omega)
      by_cases hp : pOut lo hi (s[pos]'hlt).toNat = true
      · rw [if_pos hp]
        simp only [pOut, Bool.or_eq_true, decide_eq_true_eq] at hp
        have : ¬ (lo ≤ s[pos]'hlt ∧ s[pos]'hlt ≤ hi) := by rw [le_u8, le_u8]; omega
        have h2 : (decide (lo ≤ s[pos]'hlt) && decide (s[pos]'hlt ≤ hi)) = false := by simpa using this
        rw [betB, List.all_cons, h2]
        simp
      · rw [if_neg hp, ih]
        simp only [pOut, Bool.or_eq_true, decide_eq_true_eq] at hp
        have : (lo ≤ s[pos]'hlt ∧ s[pos]'hlt ≤ hi) := by rw [le_u8, le_u8]; omega
        have h2 : (decide (lo ≤ s[pos]'hlt) && decide (s[pos]'hlt ≤ hi)) = true := by simpa using this
        rw [betB, betB, List.all_cons, h2]
        simp
    · have hd := decode_high s pos hlt (by omega)
      have hp : pOut lo hi (Utf8.decode s pos).1 = true := by
        simp only [pOut, Bool.or_eq_true, decide_eq_true_eq]; omega
      rw [if_pos hp]
      have : ¬ (lo ≤ s[pos]'hlt ∧ s[pos]'hlt ≤ hi) := by rw [le_u8, le_u8]; omega
      have h2 : (decide (lo ≤ s[pos]'hlt) && decide (s[pos]'hlt ≤ hi)) = false := by simpa using this
      rw [betB, List.all_cons, h2]
      simp
theorem idx_bet (lo hi : UInt8) (h : hi.toNat < 128) (s : BL) : decide (0 ≤ Lib.idxFunc (pOut lo hi) true (ba s)) = !betB lo hi s := by
  have := idx_from lo hi h (ba s) (ba s).size 0 (by omega)
  rw [ba_data, List.drop_zero] at this
  exact this
theorem between1 (B1 B2 : Nat) (lo hi : UInt8) (w : World) (hB1 : B1 < w.heap.size) (hB2 : B2 < w.heap.size) (h1 : w.cell? ⟨B1, 0, none⟩ = some (.int .u8 lo.toNat)) (h2 : w.cell? ⟨B2, 0, none⟩ = some (.int .u8 hi.toNat)) :
    PredAtRunes Tryd.prog 65 #[.pointer (some ⟨B1, 0, none⟩), .pointer (some ⟨B2, 0, none⟩)] (pOut lo hi) w := fun W r hr hb => by
  have c1 : W.cell? ⟨B1, 0, none⟩ = some (.int .u8 lo.toNat) := (hb.cell (p := ⟨B1, 0, none⟩) hB1).trans h1
  have c2 : W.cell? ⟨B2, 0, none⟩ = some (.int .u8 hi.toNat) := (hb.cell (p := ⟨B2, 0, none⟩) hB2).trans h2
  have hl := lo.toNat_lt
  have hh := hi.toNat_lt
  unfold FnGives pOut
  clear h1 h2
  generalize lo.toNat = l at *
  generalize hi.toNat = h at *
  go_enter Tryd.func65, Tryd.ntmps65
  have z1 : (r : Int) < (l : Int) ↔ r < l := by omega
  have z2 : (h : Int) < (r : Int) ↔ h < r := by omega
  by_cases g1 : r < l <;> by_cases g2 : h < r
  all_goals
    go_wp2
    all_goals first | (exfalso; omega) | (go_ret; exact ⟨by simp [g1, g2], 0, rfl⟩)
theorem box_second (w : World) (o : Obj) (t : TypeId) (v : Value) : ((w.alloc o).alloc (.cells #[v] t)).cell? ⟨w.heap.size + 1, 0, none⟩ = some v := by
  have h := (Boxed.new (w.alloc o) t v).cell
  rwa [World.size_alloc] at h
theorem wire_between (s : BL) (lo hi : UInt8) (h : hi.toNat < 128) (w : World) :
    Calls Tryd.prog 55 #[.string (ba s), .int .u8 lo.toNat, .int .u8 hi.toNat] w fun e w' => e = .returned (.bool (betB lo hi s)) ∧ Below w.heap.size w w' := by
  have hC := fun (W : World) (B1 B2 : Nat) (hB1 : B1 < W.heap.size) (hB2 : B2 < W.heap.size) (h1 : W.cell? ⟨B1, 0, none⟩ = some (.int .u8 lo.toNat)) (h2 : W.cell? ⟨B2, 0, none⟩ = some (.int .u8 hi.toNat)) =>
    Tryd.strings_ContainsFunc_runes 65 _ (enters_of Tryd.func65 (by kernel_rfl) rfl) _ (ba s) W (between1 B1 B2 lo hi W hB1 hB2 h1 h2)
  have hi' := idx_bet lo hi h s
  generalize betB lo hi s = b at hi' ⊢
  simp only [hi'] at hC
  generalize (lo.toNat : Int) = l at *
  generalize (hi.toNat : Int) = h' at *
  clear hi'
  go_enter Tryd.func55, Tryd.ntmps55
  go_wp2_with (first | (go_at_call 64; refine (hC _ w.heap.size (w.heap.size + 1) (by simp; omega) (by simp) (((Boxed.new w _ _).alloc _).cell) (box_second _ _ _ _)).mono ?_; rintro e w2 ⟨rfl, hb2⟩))
  go_ret
  exact ⟨by simp, below_then (below_alloc (below_alloc (Below.refl _ _) _) _) hb2⟩
end Go.Proofs.YthllkfbegdmdkaaDoor
