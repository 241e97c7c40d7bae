/- num.Text. -/
import Derived.Test.YthllkfbegdmdkaaDoorMay
import Derived.Test.YthllkfbegdmdkaaDoorShelf
import Derived.Lib.QuietBelow
import Derived.Lib.AppendIntMem
namespace Go.Proofs.YthllkfbegdmdkaaDoor
open Go.RowKit
set_option linter.unusedSimpArgs false
set_option linter.unusedVariables false
set_option maxRecDepth 100000
set_option maxHeartbeats 600000

/-- The powers of ten are laid. -/
def Tab (w : World) : Prop := Lib.TabIs Tryd.prog w "internal/strconv.uint64pow10" .u64 Lib.pow10Tab
theorem Tab.below {w w' : World} (h : Tab w) (hb : Below w.heap.size w w') : Tab w' := by
  unfold Tab Lib.TabIs World.var? at *
  cases hg : Tryd.prog.globalNamed "internal/strconv.uint64pow10" with
  | none => rw [hg] at h; cases h
  | some g =>
    rw [hg] at h
    simp only [Option.bind_some] at h ⊢
    cases ho : w.heap[g]? with
    | none => rw [ho] at h; cases h
    | some o =>
      rw [hb.block g (Array.getElem?_eq_some_iff.1 ho).1]
      exact h
def numS (n : Int) : ByteArray := if n < 0 then ⟨#[]⟩ else ⟨(Lib.itoa n).toArray⟩
theorem num_Text (n : Int) (h : in64 n) (w : World) (ht : Tab w) : Calls Tryd.prog 72 #[.int .i64 n] w fun e w' => e = .returned (.string (numS n)) ∧ Below w.heap.size w w' := by
  have hI := Lib.hid (Tryd.strconv_Itoa n h.1 h.2 w ht)
  have hN : Hid (numS n = if n < 0 then ⟨#[]⟩ else ⟨(Lib.itoa n).toArray⟩) := rfl
  generalize numS n = S at hN ⊢
  go_enter Tryd.func72, Tryd.ntmps72
  by_cases hn : n < 0
  · go_wp2
    go_ret
    rw [hN.out, if_pos hn]
    exact ⟨rfl, Below.refl _ _⟩
  · go_wp2_with (first | (go_at_call 81; refine hI.out.mono ?_; rintro e w2 ⟨rfl, k, os, rfl⟩))
    go_ret
    rw [hN.out, if_neg (by omega)]
    exact ⟨rfl, Lib.below_grow _ _ (Nat.le_refl _) _ _⟩
end Go.Proofs.YthllkfbegdmdkaaDoor
