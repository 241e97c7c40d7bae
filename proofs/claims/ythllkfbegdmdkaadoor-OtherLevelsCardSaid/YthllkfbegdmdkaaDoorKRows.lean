/- keys.rows. -/
import Derived.Test.YthllkfbegdmdkaaDoorKeys
import Derived.Deep.MidRow
namespace Go.Proofs.YthllkfbegdmdkaaDoor
open Go.RowKit
set_option linter.unusedSimpArgs false
set_option linter.unusedVariables false

structure KRow where
  from_ : Int
  many : Nat
  kind : Int
  fin : ByteArray
  nums : Option Nat
  chars : ByteArray
def knums : List (List Int) := [[2, 3], [5, 6], [29], [15, 17, 18, 19, 20, 21, 23, 24], [5, 6], [2, 3]]
def E0 : ByteArray := ⟨#[]⟩
def krows : List KRow := [
  ⟨9, 1, 2, E0, none, E0⟩, ⟨13, 1, 2, E0, none, E0⟩, ⟨27, 1, 2, E0, none, E0⟩, ⟨127, 1, 2, E0, none, E0⟩,
  ⟨57348, 2, 4, E0, some 0, E0⟩, ⟨57350, 4, 3, ⟨#[68, 67, 65, 66]⟩, none, E0⟩, ⟨57354, 2, 4, E0, some 1, E0⟩, ⟨57356, 2, 3, ⟨#[72, 70]⟩, none, E0⟩,
  ⟨57358, 5, 6, E0, none, E0⟩, ⟨57363, 1, 4, E0, some 2, E0⟩, ⟨57364, 4, 3, ⟨#[80, 81, 82, 83]⟩, none, E0⟩, ⟨57368, 8, 4, E0, some 3, E0⟩,
  ⟨57376, 23, 6, E0, none, E0⟩,
  ⟨57399, 18, 5, ⟨#[112, 113, 114, 115, 116, 117, 118, 119, 120, 121, 110, 111, 106, 109, 107, 77, 88, 108]⟩, none, ⟨#[48, 49, 50, 51, 52, 53, 54, 55, 56, 57, 46, 47, 42, 45, 43, 13, 61, 44]⟩⟩,
  ⟨57417, 4, 3, ⟨#[68, 67, 65, 66]⟩, none, E0⟩, ⟨57421, 2, 4, E0, some 4, E0⟩, ⟨57423, 2, 3, ⟨#[72, 70]⟩, none, E0⟩, ⟨57425, 2, 4, E0, some 5, E0⟩,
  ⟨57427, 1, 3, ⟨#[69]⟩, none, E0⟩, ⟨57428, 13, 6, E0, none, E0⟩, ⟨57441, 14, 7, E0, none, E0⟩]
def numsV (s : Nat) : Option Nat → Value
  | none => .slice none 0 0
  | some j => .slice (some ⟨s + j, 0, none⟩) (knums.getD j []).length (knums.getD j []).length
def rowV (s : Nat) (r : KRow) : List Value := [.int .i64 r.from_, .int .i64 r.many, .int .i64 r.kind, .string r.fin, numsV s r.nums, .string r.chars]
def numsB (xs : List Int) : Obj := .cells (xs.map (Value.int .i64)).toArray 3
def numsW (w : World) : World := knums.foldl (fun W xs => W.alloc (numsB xs)) w
def rowsW (w : World) : World := (numsW w).alloc (.cells (krows.flatMap (rowV w.heap.size)).toArray 79)

set_option maxRecDepth 100000 in
set_option maxHeartbeats 4000000 in
theorem keys_rows (w : World) :
    Calls Tryd.prog 40 #[] w fun e w' => e = .returned (.slice (some ⟨w.heap.size + 6, 0, none⟩) 21 21) ∧ w' = rowsW w := by
  have hW : Hid (rowsW w = rowsW w) := rfl
  go_enter Tryd.func40, Tryd.ntmps40
  go_wp2
  go_ret
  exact ⟨rfl, rfl⟩

theorem numsW_size (w : World) : (numsW w).heap.size = w.heap.size + 6 := by simp [numsW, knums]
theorem rowsW_size (w : World) : (rowsW w).heap.size = w.heap.size + 7 := by rw [rowsW, World.size_alloc, numsW_size]
theorem rowsW_below (w : World) : Below w.heap.size w (rowsW w) := by
  unfold rowsW numsW knums
  simp only [List.foldl]
  repeat apply below_alloc
  exact Below.refl _ _
theorem flatMap_get {α : Type} (f : KRow → List α) (hf : ∀ r, (f r).length = 6) : ∀ (L : List KRow) (k j : Nat) (r : KRow) (v : α), L[k]? = some r → (f r)[j]? = some v → (L.flatMap f)[6 * k + j]? = some v
  | [], k, j, r, v, h, _ => by simp at h
  | x :: L, 0, j, r, v, h, hv => by
    simp at h; subst h
    have hj := (List.getElem?_eq_some_iff.1 hv).1
    rw [List.flatMap_cons, List.getElem?_append_left (by omega)]
    simpa using hv
  | x :: L, k + 1, j, r, v, h, hv => by
    rw [List.flatMap_cons, List.getElem?_append_right (by rw [hf]; omega), hf, show 6 * (k + 1) + j - 6 = 6 * k + j from by omega]
    exact flatMap_get f hf L k j r v (by simpa using h) hv
theorem rowsW_row (w : World) (k : Nat) (r : KRow) (h : krows[k]? = some r) : (rowsW w).rangeAt (w.heap.size + 6) (6 * k) (rowV w.heap.size r) := by
  intro j v hv
  have hb : (rowsW w).heap[w.heap.size + 6]? = some (.cells (krows.flatMap (rowV w.heap.size)).toArray 79) := by
    rw [rowsW, ← numsW_size w]; exact heap_alloc_new _ _
  rw [cell_of_row _ _ _ _ _ _ hb]
  simpa using flatMap_get _ (fun r => rfl) krows k j r v h hv
theorem alloc_at {W : World} {o : Obj} {k : Nat} (h : k = W.heap.size) : (W.alloc o).heap[k]? = some o := by subst h; exact heap_alloc_new _ _
theorem rowsW_nums (w : World) (j i : Nat) (x : Int) (hj : j < 6) (hx : (knums.getD j [])[i]? = some x) : (rowsW w).cell? ⟨w.heap.size + j, i, none⟩ = some (.int .i64 x) := by
  have hb : (rowsW w).heap[w.heap.size + j]? = some (numsB (knums.getD j [])) := by
    rw [rowsW, Below.heap_alloc _ _ _ (by rw [numsW_size]; omega)]
    obtain rfl | rfl | rfl | rfl | rfl | rfl : j = 0 ∨ j = 1 ∨ j = 2 ∨ j = 3 ∨ j = 4 ∨ j = 5 := by omega
    all_goals
      simp only [numsW, knums, List.foldl]
      repeat
        first
        | (rw [alloc_at (by first | omega | (simp only [World.size_alloc]; done) | (simp only [World.size_alloc]; omega))]; rfl)
        | (rw [Below.heap_alloc _ _ _ (by first | omega | (simp only [World.size_alloc]; done) | (simp only [World.size_alloc]; omega))])
  rw [cell_of_row _ _ _ _ _ _ hb, List.getElem?_toArray, List.getElem?_map, hx]
  rfl
end Go.Proofs.YthllkfbegdmdkaaDoor
