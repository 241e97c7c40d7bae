/- wire.listed. -/
import Derived.Test.YthllkfbegdmdkaaDoorBetw
import Derived.Test.YthllkfbegdmdkaaDoorMods
namespace Go.Proofs.YthllkfbegdmdkaaDoor
open Go.RowKit
set_option linter.unusedSimpArgs false
set_option linter.unusedVariables false
set_option maxRecDepth 100000
set_option maxHeartbeats 1000000

/-- A slice of slices of whole numbers that can be read. -/
def RdRows (w : World) (v : Value) (L : List (List Int)) : Prop :=
  ∃ a c, v = .slice a L.length c ∧ L.length ≤ c ∧ L.length ≤ 1000000 ∧
    (L = [] ∨ ∃ b o, a = some ⟨b, o, none⟩ ∧ b < w.heap.size ∧ ∀ j l, L[j]? = some l → ∃ u, w.cell? ⟨b, o + j, none⟩ = some u ∧ Rd .i64 w u l)
theorem RdRows.below {w w' : World} {v : Value} {L : List (List Int)} (h : RdRows w v L) (hb : Below w.heap.size w w') : RdRows w' v L := by
  obtain ⟨a, c, e, h1, h2, h3⟩ := h
  refine ⟨a, c, e, h1, h2, ?_⟩
  rcases h3 with h3 | ⟨b, o, ha, hlt, hc⟩
  · exact .inl h3
  · refine .inr ⟨b, o, ha, Nat.lt_of_lt_of_le hlt hb.size, fun j l hj => ?_⟩
    obtain ⟨u, hu, hr⟩ := hc j l hj
    exact ⟨u, (hb.cell (p := ⟨b, o + j, none⟩) hlt).trans hu, hr.below hb⟩
theorem RdRows.len {w : World} {v : Value} {L : List (List Int)} (h : RdRows w v L) : ∃ a c, v = .slice a L.length c := by
  obtain ⟨a, c, e, _⟩ := h; exact ⟨a, c, e⟩
theorem RdRows.nil (w : World) : RdRows w (.slice none 0 0) [] := ⟨none, 0, rfl, Nat.zero_le _, Nat.zero_le _, .inl rfl⟩
theorem RdRows.at {w : World} {a : Option Addr} {n c : Nat} {L : List (List Int)} (h : RdRows w (.slice a n c) L) {j : Nat} {l : List Int} (hj : L[j]? = some l) :
    ∃ b o u, a = some ⟨b, o, none⟩ ∧ b < w.heap.size ∧ w.cell? ⟨b, o + j, none⟩ = some u ∧ Rd .i64 w u l := by
  obtain ⟨a', c', e, h1, h2, h3⟩ := h
  injection e with e1 e2 e3
  rcases h3 with rfl | ⟨b, o, ha, hlt, hc⟩
  · simp at hj
  · obtain ⟨u, hu, hr⟩ := hc j l hj
    exact ⟨b, o, u, by rw [e1, ha], hlt, hu, hr⟩
theorem Rd.lenp {k : IntKind} {w : World} {v : Value} {xs : List Int} (h : Rd k w v xs) : ∃ a c, v = .slice a xs.length c := by
  obtain ⟨a, c, e, _⟩ := h; exact ⟨a, c, e⟩
theorem Rd.le {k : IntKind} {w : World} {v : Value} {xs : List Int} (h : Rd k w v xs) : xs.length ≤ 140737488355328 := by
  obtain ⟨a, c, e, _, h, _⟩ := h; exact h
theorem Rd.at {k : IntKind} {w : World} {a : Option Addr} {n c : Nat} {xs : List Int} (h : Rd k w (.slice a n c) xs) {j : Nat} (hj : j < xs.length) :
    ∃ b o, a = some ⟨b, o, none⟩ ∧ b < w.heap.size ∧ w.cell? ⟨b, o + j, none⟩ = some (.int k (xs.getD j 0)) := by
  obtain ⟨a', c', e, h1, h2, h3⟩ := h
  injection e with e1 e2 e3
  rcases h3 with rfl | ⟨b, o, ha, hlt, hc⟩
  · simp at hj
  · exact ⟨b, o, by rw [e1, ha], hlt, hc j hj⟩

def outP (n : Int) : Bool := decide (n < -1) || decide (1114111 < n)
theorem listed1 (x : Int) (w : World) : Calls Tryd.prog 67 #[.int .i64 x] w fun e w' => e = .returned (.bool (outP x)) ∧ w = w' := by
  have hO : Hid (outP x = (decide (x < -1) || decide (1114111 < x))) := rfl
  go_enter Tryd.func67, Tryd.ntmps67
  by_cases h1 : x < -1
  · go_wp2
    go_ret
    exact ⟨by rw [hO.out]; simp [h1], rfl⟩
  · go_wp2
    go_ret
    exact ⟨by rw [hO.out, decide_eq_false (show ¬ x < -1 by omega)]; rfl, rfl⟩

/-! ### slices.ContainsFunc over whole numbers -/
theorem sl_IndexFunc (xs : List Int) (v : Value) (w : World) (hR : Rd .i64 w v xs) :
    Calls Tryd.prog 77 #[v, .func (.func 67) #[] #[]] w fun e w' => (∃ r : Int, e = .returned (.int .i64 r) ∧ decide (0 ≤ r) = xs.any outP) ∧ w = w' := by
  obtain ⟨a, c, rfl⟩ := hR.lenp
  obtain ⟨n, hn⟩ : ∃ n, xs.length = n := ⟨_, rfl⟩
  have HR := Lib.hid hR
  have HN := Lib.hid hn
  have hl : (n : Int) ≤ 140737488355328 := by have := hR.le; omega
  clear hR
  rw [hn]
  go_enter Tryd.func77, Tryd.ntmps77
  go_wp2
  go_loop [5, 8] (fun s5 s8 => ∃ i : Nat, s8 = .int .i64 i ∧ i ≤ n ∧ (xs.take i).any outP = false) (fun _ s8 => n - (intOf s8).toNat)
  case atStart => exact ⟨0, rfl, by omega, rfl⟩
  case round =>
    obtain ⟨i, rfl, hi, hany⟩ := hrel
    have HA := Lib.hid hany
    clear hany
    by_cases hin : i < n
    · obtain ⟨b, o, rfl, hlt, hcell⟩ := HR.out.at (j := i) (by rw [HN.out]; exact hin)
      obtain ⟨x, hx⟩ : ∃ x, xs[i]? = some x := ⟨_, List.getElem?_eq_getElem (by rw [HN.out]; exact hin)⟩
      have hxd : xs.getD i 0 = x := by rw [List.getD_eq_getElem?_getD, hx]; rfl
      rw [hxd] at hcell
      have hC := Lib.hid (listed1 x w)
      have htk : Hid ((xs.take (i + 1)).any outP = ((xs.take i).any outP || outP x)) := by
        show _ = _
        rw [List.take_add_one, hx, List.any_append]; simp
      have hmem := Lib.hid (show outP x = true → xs.any outP = true from fun h => List.any_eq_true.2 ⟨x, List.mem_of_getElem? hx, h⟩)
      clear hx hxd
      generalize outP x = q at hC htk hmem
      cases q
      · go_wp2_with (first | (go_at_call 67; refine hC.out.mono ?_; rintro e w2 ⟨rfl, rfl⟩))
        go_round
        case rel => exact ⟨i + 1, by go_num, by omega, by rw [htk.out, HA.out]; rfl⟩
        case measure => simp [intOf]; omega
      · go_wp2_with (first | (go_at_call 67; refine hC.out.mono ?_; rintro e w2 ⟨rfl, rfl⟩))
        go_ret
        exact ⟨⟨_, rfl, by rw [hmem.out trivial]; simp⟩, rfl⟩
    · have : i = n := by omega
      subst this
      go_wp2
      go_ret
      refine ⟨⟨_, rfl, ?_⟩, rfl⟩
      have := HA.out
      rw [← HN.out, List.take_length] at this
      rw [this]; rfl
theorem sl_ContainsFunc (xs : List Int) (v : Value) (w : World) (hR : Rd .i64 w v xs) :
    Calls Tryd.prog 66 #[v, .func (.func 67) #[] #[]] w fun e w' => e = .returned (.bool (xs.any outP)) ∧ w = w' := by
  have hC := Lib.hid (sl_IndexFunc xs v w hR)
  obtain ⟨a, c, rfl⟩ := hR.lenp
  generalize xs.any outP = q at hC ⊢
  clear hR
  go_enter Tryd.func66, Tryd.ntmps66
  go_wp2_with (first | (go_at_call 77; refine hC.out.mono ?_; rintro e w2 ⟨⟨r, rfl, hr⟩, rfl⟩; have HR := Lib.hid hr; clear hr))
  go_ret
  exact ⟨congrArg (fun b => Ending.returned (Value.bool b)) HR.out, rfl⟩
end Go.Proofs.YthllkfbegdmdkaaDoor
