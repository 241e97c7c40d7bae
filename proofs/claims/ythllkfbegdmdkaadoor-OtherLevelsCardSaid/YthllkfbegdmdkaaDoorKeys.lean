/- keys.row.entry. -/
import Derived.Test.YthllkfbegdmdkaaDoorBase
namespace Go.Proofs.YthllkfbegdmdkaaDoor
open Go.RowKit
set_option linter.unusedSimpArgs false
set_option linter.unusedVariables false

def sAt (s : ByteArray) (i : Nat) : Int := (s.data.getD i 0).toNat
theorem sAt_eq {s : ByteArray} {i : Nat} (h : i < s.size) : ((s[i]'h).toNat : Int) = sAt s i := by
  have h' : i < s.data.size := h
  unfold sAt
  rw [Array.getD, dif_pos h']
  rfl
theorem sAt_wrap (s : ByteArray) (i : Nat) : wrap64 (sAt s i) = sAt s i := by
  have := (s.data.getD i 0).toNat_lt
  unfold sAt wrap64; omega
def entryV (from_ kind fin num char : Int) : Value :=
  .agg #[.int .i64 kind, .int .u8 fin, .int .i64 num, .int .i64 char, .bool (decide (57399 ≤ from_) && (kind != 6) && (kind != 7))]
theorem heap_mid {w : World} {a b c : Obj} : (((w.alloc a).alloc b).alloc c).heap[w.heap.size + 1]? = some b := by
  have h := heap_alloc_new (w.alloc a) b
  rw [World.size_alloc] at h
  exact (Below.heap_alloc _ _ _ (by simp)).trans h
theorem wrap_byte (n : Nat) (h : n < 256) : wrap64 (n : Int) = n := by
  unfold wrap64; omega

set_option maxRecDepth 100000 in
set_option maxHeartbeats 4000000 in
theorem keys_entry_plain (from_ many kind : Int) (i : Nat) (w : World) :
    Calls Tryd.prog 41 #[.agg #[.int .i64 from_, .int .i64 many, .int .i64 kind, .string ⟨#[]⟩, .slice none 0 0, .string ⟨#[]⟩], .int .i64 i] w fun e w' => e = .returned (entryV from_ kind 0 0 0) ∧ Below w.heap.size w w' := by
  go_enter Tryd.func41, Tryd.ntmps41
  have hE : Hid (entryV from_ kind 0 0 0 = .agg #[.int .i64 kind, .int .u8 0, .int .i64 0, .int .i64 0, .bool (decide (57399 ≤ from_) && (kind != 6) && (kind != 7))]) := rfl
  generalize entryV from_ kind 0 0 0 = E at hE ⊢
  go_wp2
  all_goals
    refine bodyPost_ret (results_cell_row Tryd.results41 _ _ (w.heap.size + 1) _ _ (0, 0) _ rfl heap_mid Tryd.underlying32 rfl (by kernel_rfl)) rfl ⟨?_, below_alloc (below_alloc (below_alloc (Below.refl _ _) _) _) _⟩
    rw [hE.out]
    first
    | (simp_all [sAt_eq, sAt_wrap]; done)
    | (rw [decide_eq_false (show ¬ 57399 ≤ from_ by omega)]; simp_all [sAt_eq, sAt_wrap])

set_option maxRecDepth 100000 in
set_option maxHeartbeats 4000000 in
theorem keys_entry_letter (from_ many kind : Int) (i : Nat) (w : World) (s : ByteArray) (hs : i < s.size) (hsE : s.toList.isEmpty = false) :
    Calls Tryd.prog 41 #[.agg #[.int .i64 from_, .int .i64 many, .int .i64 kind, .string s, .slice none 0 0, .string ⟨#[]⟩], .int .i64 i] w fun e w' => e = .returned (entryV from_ kind (sAt s i) 0 0) ∧ Below w.heap.size w w' := by
  go_enter Tryd.func41, Tryd.ntmps41
  have hE : Hid (entryV from_ kind (sAt s i) 0 0 = .agg #[.int .i64 kind, .int .u8 (sAt s i), .int .i64 0, .int .i64 0, .bool (decide (57399 ≤ from_) && (kind != 6) && (kind != 7))]) := rfl
  generalize entryV from_ kind (sAt s i) 0 0 = E at hE ⊢
  have hsz : 0 < s.size := by omega
  go_wp2
  all_goals
    refine bodyPost_ret (results_cell_row Tryd.results41 _ _ (w.heap.size + 1) _ _ (0, 0) _ rfl heap_mid Tryd.underlying32 rfl (by kernel_rfl)) rfl ⟨?_, below_alloc (below_alloc (below_alloc (Below.refl _ _) _) _) _⟩
    rw [hE.out]
    first
    | (simp_all [sAt_eq, sAt_wrap]; done)
    | (rw [decide_eq_false (show ¬ 57399 ≤ from_ by omega)]; simp_all [sAt_eq, sAt_wrap])

set_option maxRecDepth 100000 in
set_option maxHeartbeats 4000000 in
theorem keys_entry_number (from_ many kind : Int) (i : Nat) (w : World) (b n c : Nat) (x : Int) (hb : b < w.heap.size) (hi : i < n) (hc0 : w.cell? ⟨b, i, none⟩ = some (.int .i64 x)) :
    Calls Tryd.prog 41 #[.agg #[.int .i64 from_, .int .i64 many, .int .i64 kind, .string ⟨#[]⟩, (.slice (some ⟨b, 0, none⟩) n c), .string ⟨#[]⟩], .int .i64 i] w fun e w' => e = .returned (entryV from_ kind 0 x 0) ∧ Below w.heap.size w w' := by
  go_enter Tryd.func41, Tryd.ntmps41
  have hE : Hid (entryV from_ kind 0 x 0 = .agg #[.int .i64 kind, .int .u8 0, .int .i64 x, .int .i64 0, .bool (decide (57399 ≤ from_) && (kind != 6) && (kind != 7))]) := rfl
  generalize entryV from_ kind 0 x 0 = E at hE ⊢
  have hc : ∀ o1 o2 o3, (((w.alloc o1).alloc o2).alloc o3).cell? ⟨b, i, none⟩ = some (.int .i64 x) := fun o1 o2 o3 => (below_alloc (below_alloc (below_alloc (Below.refl _ w) o1) o2) o3).cell (p := ⟨b, i, none⟩) hb |>.trans hc0
  clear hc0
  go_wp2
  all_goals
    refine bodyPost_ret (results_cell_row Tryd.results41 _ _ (w.heap.size + 1) _ _ (0, 0) _ rfl heap_mid Tryd.underlying32 rfl (by kernel_rfl)) rfl ⟨?_, below_alloc (below_alloc (below_alloc (Below.refl _ _) _) _) _⟩
    rw [hE.out]
    first
    | (simp_all [sAt_eq, sAt_wrap]; done)
    | (rw [decide_eq_false (show ¬ 57399 ≤ from_ by omega)]; simp_all [sAt_eq, sAt_wrap])

set_option maxRecDepth 100000 in
set_option maxHeartbeats 4000000 in
theorem keys_entry_pad (from_ many kind : Int) (i : Nat) (w : World) (s r : ByteArray) (hs : i < s.size) (hr : i < r.size) (hsE : s.toList.isEmpty = false) (hrE : r.toList.isEmpty = false) :
    Calls Tryd.prog 41 #[.agg #[.int .i64 from_, .int .i64 many, .int .i64 kind, .string s, .slice none 0 0, .string r], .int .i64 i] w fun e w' => e = .returned (entryV from_ kind (sAt s i) 0 (sAt r i)) ∧ Below w.heap.size w w' := by
  go_enter Tryd.func41, Tryd.ntmps41
  have hE : Hid (entryV from_ kind (sAt s i) 0 (sAt r i) = .agg #[.int .i64 kind, .int .u8 (sAt s i), .int .i64 0, .int .i64 (sAt r i), .bool (decide (57399 ≤ from_) && (kind != 6) && (kind != 7))]) := rfl
  generalize entryV from_ kind (sAt s i) 0 (sAt r i) = E at hE ⊢
  have hsz : 0 < s.size := by omega
  have hrz : 0 < r.size := by omega
  go_wp2
  all_goals
    refine bodyPost_ret (results_cell_row Tryd.results41 _ _ (w.heap.size + 1) _ _ (0, 0) _ rfl heap_mid Tryd.underlying32 rfl (by kernel_rfl)) rfl ⟨?_, below_alloc (below_alloc (below_alloc (Below.refl _ _) _) _) _⟩
    rw [hE.out]
    first
    | (simp_all [sAt_eq, sAt_wrap]; done)
    | (rw [decide_eq_false (show ¬ 57399 ≤ from_ by omega)]; simp_all [sAt_eq, sAt_wrap])
end Go.Proofs.YthllkfbegdmdkaaDoor
