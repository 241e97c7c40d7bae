/- keys.all as an iterator. -/
import Derived.Test.YthllkfbegdmdkaaDoorKRows
import Derived.Test.YthllkfbegdmdkaaDoorBox
import Derived.Stop.RegionWithIn
namespace Go.Proofs.YthllkfbegdmdkaaDoor
open Go.RowKit
set_option linter.unusedSimpArgs false
set_option linter.unusedVariables false

def knum : Option Nat → Nat → Int
  | none, _ => 0
  | some j, i => (knums.getD j []).getD i 0
def kentry (r : KRow) (i : Nat) : Value := entryV r.from_ r.kind (if r.fin.size = 0 then 0 else sAt r.fin i) (knum r.nums i) (if r.chars.size = 0 then 0 else sAt r.chars i)
def kshape (r : KRow) : Prop :=
  (r.fin = E0 ∧ r.nums = none ∧ r.chars = E0) ∨ (r.many ≤ r.fin.size ∧ r.fin.toList.isEmpty = false ∧ r.nums = none ∧ r.chars = E0) ∨
  (r.fin = E0 ∧ (∃ j, j < 6 ∧ r.nums = some j ∧ r.many ≤ (knums.getD j []).length) ∧ r.chars = E0) ∨
  (r.many ≤ r.fin.size ∧ r.fin.toList.isEmpty = false ∧ r.nums = none ∧ r.many ≤ r.chars.size ∧ r.chars.toList.isEmpty = false)
theorem kshapes : ∀ r ∈ krows, kshape r := by
  intro r hr
  simp only [krows, List.mem_cons, List.not_mem_nil, or_false] at hr
  rcases hr with rfl | rfl | rfl | rfl | rfl | rfl | rfl | rfl | rfl | rfl | rfl | rfl | rfl | rfl | rfl | rfl | rfl | rfl | rfl | rfl | rfl
  all_goals first
    | exact .inl ⟨rfl, rfl, rfl⟩
    | exact .inr (.inl ⟨by decide +kernel, by decide +kernel, rfl, rfl⟩)
    | exact .inr (.inr (.inl ⟨rfl, ⟨_, by decide, rfl, by decide⟩, rfl⟩))
    | exact .inr (.inr (.inr ⟨by decide +kernel, by decide +kernel, rfl, by decide +kernel, by decide +kernel⟩))

theorem keys_entry (r : KRow) (hr : r ∈ krows) (s i : Nat) (hi : i < r.many) (w : World) (hs : s + 6 ≤ w.heap.size)
    (hn : ∀ j x, j < 6 → (knums.getD j [])[i]? = some x → w.cell? ⟨s + j, i, none⟩ = some (.int .i64 x)) :
    Calls Tryd.prog 41 #[.agg (rowV s r).toArray, .int .i64 i] w fun e w' => e = .returned (kentry r i) ∧ Below w.heap.size w w' := by
  rcases kshapes r hr with ⟨h1, h2, h3⟩ | ⟨h1, h2, h3, h4⟩ | ⟨h1, ⟨j, hj, h2, h3⟩, h4⟩ | ⟨h1, h2, h3, h4, h5⟩
  · have h := keys_entry_plain r.from_ r.many r.kind i w
    simp only [kentry, rowV, h1, h2, h3, numsV, knum]
    exact h
  · have hz : ¬ r.fin.size = 0 := by omega
    have h := keys_entry_letter r.from_ r.many r.kind i w r.fin (by omega) h2
    simp only [kentry, rowV, h3, h4, numsV, knum, if_neg hz]
    exact h
  · have hx : (knums.getD j [])[i]? = some ((knums.getD j []).getD i 0) := by
      rw [List.getD_eq_getElem?_getD (l := knums.getD j []), List.getElem?_eq_getElem (by omega)]; rfl
    have h := keys_entry_number r.from_ r.many r.kind i w (s + j) (knums.getD j []).length (knums.getD j []).length _ (by omega) (by omega) (hn j _ hj hx)
    simp only [kentry, rowV, h1, h2, h4, numsV, knum]
    exact h
  · have hz : ¬ r.fin.size = 0 := by omega
    have hz2 : ¬ r.chars.size = 0 := by omega
    have h := keys_entry_pad r.from_ r.many r.kind i w r.fin r.chars (by omega) (by omega) h2 h5
    simp only [kentry, rowV, h3, numsV, knum, if_neg hz, if_neg hz2]
    exact h

/-- What keys.all hands on. -/
def kys (L : List KRow) : List (Array Value) := L.flatMap fun r => (List.range r.many).map fun (i : Nat) => #[.int .i64 (r.from_ + i), kentry r i]
def koff (k : Nat) : Nat := (kys (krows.take k)).length
theorem kys_append (L M : List KRow) : kys (L ++ M) = kys L ++ kys M := by simp [kys]
theorem kys_at (k i : Nat) (r : KRow) (h : krows[k]? = some r) (hi : i < r.many) : (kys krows)[koff k + i]? = some #[.int .i64 (r.from_ + i), kentry r i] := by
  have e : krows = krows.take k ++ r :: krows.drop (k + 1) := by
    conv => lhs; rw [← List.take_append_drop k krows]
    rw [List.drop_eq_getElem_cons (List.getElem?_eq_some_iff.1 h).1, (List.getElem?_eq_some_iff.1 h).2]
  have e2 : kys krows = kys (krows.take k) ++ (kys [r] ++ kys (krows.drop (k + 1))) := by
    conv => lhs; rw [e]
    rw [kys_append, show r :: krows.drop (k + 1) = [r] ++ krows.drop (k + 1) from rfl, kys_append]
  have l1 : (kys [r]).length = r.many := by simp [kys]
  rw [e2, koff, List.getElem?_append_right (by omega), show (kys (krows.take k)).length + i - (kys (krows.take k)).length = i from by omega, List.getElem?_append_left (by omega)]
  simp [kys, hi]
theorem koff_succ (k : Nat) (r : KRow) (h : krows[k]? = some r) : koff (k + 1) = koff k + r.many := by
  rw [koff, List.take_add_one, h, kys_append, List.length_append]
  simp [koff, kys]
theorem koff_end : koff 21 = (kys krows).length := by rw [koff, List.take_of_length_le (by decide)]
end Go.Proofs.YthllkfbegdmdkaaDoor
