/- strings.Join over an own list of strings; numbers as strings. -/
import Derived.Test.YthllkfbegdmdkaaDoorWMay
import Derived.Test.YthllkfbegdmdkaaDoorOne
namespace Go.Proofs.YthllkfbegdmdkaaDoor
open Go.RowKit
set_option linter.unusedSimpArgs false
set_option linter.unusedVariables false
set_option maxRecDepth 100000
set_option maxHeartbeats 1000000

theorem numS_ba (n : Int) (h : in64 n) : numS n = ba (numL n) := by
  unfold numS
  split
  · rename_i hn
    unfold numL
    rw [if_pos hn]; rfl
  · rw [numL_eq n (by omega) h.2]; rfl
theorem oneS_ba (ps : List Int) (h : ∀ x ∈ ps, in64 x) : oneS ps = ba (oneL ps) := by
  unfold oneS oneL joinS joinL ba
  have : (ps.map numS).map (·.data.toList) = ps.map numL := by
    rw [List.map_map]
    refine List.map_congr_left fun x hx => ?_
    simp only [Function.comp, numS_ba x (h x hx), ba_data]
  rw [this]
theorem join_own {s : Nat} {ua : Option Addr} {i uc : Nat} {wr : World} (xs : List BL) (sep : BL) (B : Nat) (hown : wr.ownsRow s 9 1 (.slice ua i uc) i (xs.map fun x => Value.string (ba x))) (hi : i ≤ 1000) (hsep : sep.length ≤ 10) (hB : ∀ x ∈ xs, x.length ≤ B) (hBB : B ≤ 1000000) :
    Calls Tryd.prog 58 #[.slice ua i uc, .string (ba sep)] wr fun e w' => e = .returned (.string (ba (Lib.join xs sep))) ∧ Below wr.heap.size wr w' := by
  have hlen : xs.length = i := by
    have := hown.1
    simpa using this
  rcases hown.2 with ⟨hv, h0⟩ | ⟨g, cap, cur, hv, hgb, hgh, hcap, hm, hsz, htake⟩
  · have hp : xs = [] := List.eq_nil_of_length_eq_zero (by rw [hlen, h0])
    injection hv with e1 e2 e3
    subst e1 e3
    rw [hp, h0]
    refine (Tryd.strings_Join_none none 0 (ba sep) wr).mono ?_
    rintro e w' ⟨rfl, rfl⟩
    exact ⟨rfl, Below.refl _ _⟩
  · injection hv with e1 e2 e3
    subst e1 e3
    have hxs : (xs.map ba).length = i := by rw [List.length_map]; exact hlen
    have hdd : (xs.map ba).map (·.data.toList) = xs := by
      rw [List.map_map]
      conv => rhs; rw [← List.map_id xs]
      refine List.map_congr_left fun x _ => ?_
      simp only [Function.comp, ba_data, id]
    have hj := Tryd.strings_Join g 0 uc (xs.map ba) (ba sep) wr (fun j x hx => by
      have hjl := (List.getElem?_eq_some_iff.1 hx).1
      have h1 : (cur.toList.take (i * 1))[j]? = some (.string x) := by
        rw [htake]
        rw [List.getElem?_map] at hx ⊢
        cases hq : xs[j]? with
        | none => rw [hq] at hx; cases hx
        | some y => rw [hq] at hx; simp at hx; simp [hx]
      rw [List.getElem?_take_of_lt (by omega)] at h1
      rw [Nat.zero_add, cell_of_row _ _ _ _ _ _ hgh]
      simpa using h1) (Array.getElem?_eq_some_iff.1 hgh).1 (by omega) (by omega) (by
      rw [hdd, ba_data]
      have hb := join_le B xs sep hB
      rw [hlen] at hb
      have h2 : (sep.length + B) * i ≤ 1000010 * 1000 := Nat.mul_le_mul (by omega) hi
      omega)
    rw [hxs, hdd, ba_data] at hj
    exact hj
end Go.Proofs.YthllkfbegdmdkaaDoor
