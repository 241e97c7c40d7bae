import Derived.Test.YthllkfbegdmdkaaDoorBase
import Derived.Deep.LoopGhost
import Derived.Deep.Draws
import Derived.RegionTactic
import Derived.Lib.Slices
import Derived.Lib.SlicesMore
namespace Go.Proofs.YthllkfbegdmdkaaDoor
open Go.RowKit
set_option linter.unusedSimpArgs false
set_option linter.unusedVariables false

/-! ### slices.Equal at []byte -/
set_option maxHeartbeats 2000000 in
set_option maxRecDepth 100000 in
theorem equal_bytes_at (b1 o1 n c b2 o2 d : Nat) (xs ys : List Int) (w : World) (hx : xs.length = n) (hy : ys.length = n) (hbig : n ≤ 140737488355328) (hc1 : ∀ j, j < n → w.cell? ⟨b1, o1 + j, none⟩ = some (.int .u8 (xs.getD j 0))) (hc2 : ∀ j, j < n → w.cell? ⟨b2, o2 + j, none⟩ = some (.int .u8 (ys.getD j 0))) :
    Calls Tryd.prog 75 #[.slice (some ⟨b1, o1, none⟩) n c, .slice (some ⟨b2, o2, none⟩) n d] w fun e w' => e = .returned (.bool (decide (xs = ys))) ∧ Below w.heap.size w w' := by
  go_enter Tryd.func75, Tryd.ntmps75
  go_wp2
  go_loopg [13] n (fun g s13 wr => ∃ k q : Nat, k ≤ n ∧ n - k ≤ g ∧ s13 = .int .i64 k ∧ wr = w.drewN q ∧ ∀ j, j < k → xs.getD j 0 = ys.getD j 0)
  case atStart => exact ⟨0, 0, Nat.zero_le _, by omega, rfl, rfl, fun j hj => absurd hj (Nat.not_lt_zero _)⟩
  case round =>
    obtain ⟨k, q, hk, hg, rfl, rfl, heq⟩ := hrel
    by_cases hlt : k < n
    · have g1 : w.cell? ⟨b1, o1 + k, none⟩ = some (.int .u8 (xs.getD k 0)) := hc1 k (by omega)
      have g2 : w.cell? ⟨b2, o2 + k, none⟩ = some (.int .u8 (ys.getD k 0)) := hc2 k (by omega)
      have A := Lib.hid heq
      have HX := Lib.hid hx; have HY := Lib.hid hy
      clear heq hc1 hc2 hx hy
      generalize hxk : xs.getD k 0 = x at g1
      generalize hyk : ys.getD k 0 = y at g2
      have B := Lib.hid (And.intro hxk hyk)
      clear hxk hyk
      by_cases hxy : x = y
      · subst hxy
        go_wp2_with fail
        go_region
        go_wp2
        go_roundg (n - (k + 1))
        case measure => omega
        case rel =>
          refine ⟨k + 1, q + 1, by omega, by omega, by go_num, rfl, fun j hj => ?_⟩
          by_cases e : j = k
          · subst e
            rw [B.out.1, B.out.2]
          · exact A.out j (by omega)
      · go_wp2_with fail
        go_region
        go_wp2
        go_ret
        refine ⟨?_, below_drewN (Below.refl _ _) (q + 1)⟩
        rw [decide_eq_false (fun e => hxy (by rw [← B.out.1, ← B.out.2, e]))]
        rfl
    · have : k = n := by omega
      subst this
      clear hc1 hc2
      have A := Lib.hid heq
      have HX := Lib.hid hx; have HY := Lib.hid hy
      clear heq hx hy
      go_wp2
      go_ret
      refine ⟨?_, below_drewN (Below.refl _ _) q⟩
      rw [decide_eq_true (List.ext_getElem (HX.out.trans HY.out.symm) (fun i h1 h2 => by
        have h3 := A.out i (by rw [HX.out] at h1; exact h1)
        rw [List.getD_eq_getElem?_getD, List.getD_eq_getElem?_getD, List.getElem?_eq_getElem h1, List.getElem?_eq_getElem h2] at h3
        exact h3))]
      rfl
set_option maxHeartbeats 400000 in
theorem equal_bytes_len (a1 a2 : Option Addr) (n c m d : Nat) (w : World) (hnm : n ≠ m) :
    Calls Tryd.prog 75 #[.slice a1 n c, .slice a2 m d] w fun e w' => e = .returned (.bool false) ∧ w = w' := by
  have hnm' : ¬ (n : Int) = (m : Int) := by omega
  go_enter Tryd.func75, Tryd.ntmps75
  go_wp2
  go_ret
  exact ⟨rfl, rfl⟩
set_option maxHeartbeats 400000 in
theorem equal_bytes_none (a1 a2 : Option Addr) (c d : Nat) (w : World) :
    Calls Tryd.prog 75 #[.slice a1 0 c, .slice a2 0 d] w fun e w' => e = .returned (.bool true) ∧ w = w' := by
  go_enter Tryd.func75, Tryd.ntmps75
  go_wp2
  go_loopg [13] 0 (fun _ s13 wr => s13 = .int .i64 0 ∧ wr = w)
  case atStart => exact ⟨rfl, rfl⟩
  case round =>
    obtain ⟨rfl, rfl⟩ := hrel
    go_wp2
    go_ret
    exact ⟨rfl, rfl⟩
/-- slices.Equal at []byte: are the two lists the same? -/
theorem equal_bytes (v1 v2 : Value) (xs ys : List Int) (w : World) (h1 : Rd .u8 w v1 xs) (h2 : Rd .u8 w v2 ys) :
    Calls Tryd.prog 75 #[v1, v2] w fun e w' => e = .returned (.bool (decide (xs = ys))) ∧ Below w.heap.size w w' := by
  obtain ⟨a, c, rfl, hac, hab, ha⟩ := h1
  obtain ⟨a', d, rfl, hbc, hbb, hb⟩ := h2
  by_cases hl : xs.length = ys.length
  · rcases ha with rfl | ⟨b1, o1, rfl, _, hc1⟩
    · obtain rfl : ys = [] := List.eq_nil_of_length_eq_zero hl.symm
      exact (equal_bytes_none a a' c d w).mono fun e w' ⟨he, hw⟩ => ⟨he, hw ▸ Below.refl _ _⟩
    · rcases hb with rfl | ⟨b2, o2, rfl, _, hc2⟩
      · obtain rfl : xs = [] := List.eq_nil_of_length_eq_zero hl
        exact (equal_bytes_none _ a' c d w).mono fun e w' ⟨he, hw⟩ => ⟨he, hw ▸ Below.refl _ _⟩
      · rw [hl] at hc1 hab ⊢
        exact equal_bytes_at b1 o1 _ c b2 o2 d xs ys w hl rfl hab hc1 hc2
  · refine (equal_bytes_len a a' _ c _ d w hl).mono fun e w' ⟨he, hw⟩ => ⟨?_, hw ▸ Below.refl _ _⟩
    rw [he, decide_eq_false (fun e => hl (by rw [e]))]
end Go.Proofs.YthllkfbegdmdkaaDoor
