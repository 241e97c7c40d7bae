/- wire.listed: whether parameters may be. -/
import Derived.Test.YthllkfbegdmdkaaDoorSeq
namespace Go.Proofs.YthllkfbegdmdkaaDoor
open Go.RowKit
set_option linter.unusedSimpArgs false
set_option linter.unusedVariables false
set_option maxRecDepth 100000
set_option maxHeartbeats 1000000

theorem eq_ints (xs ys : List Int) (v u : Value) (w : World) (h1 : Rd .i64 w v xs) (h2 : Rd .i64 w u ys) :
    Calls Tryd.prog 53 #[v, u] w fun e w' => e = .returned (.bool (xs == ys)) ∧ Below w.heap.size w w' := by
  have l1 := h1.le
  have l2 := h2.le
  by_cases hl : xs.length = ys.length
  · by_cases h0 : xs = []
    · subst h0
      obtain rfl : ys = [] := List.eq_nil_of_length_eq_zero (by simpa using hl.symm)
      obtain ⟨a, c, rfl⟩ := h1.lenp
      obtain ⟨a', c', rfl⟩ := h2.lenp
      refine (Tryd.slices_Equal_int_empty a a' c 0 c' w (by omega)).mono ?_
      rintro e w' ⟨rfl, rfl⟩
      exact ⟨rfl, Below.refl _ _⟩
    · have h0' : ys ≠ [] := by rintro rfl; exact h0 (List.eq_nil_of_length_eq_zero (by simpa using hl))
      have p1 := List.length_pos_iff.2 h0
      have p2 := List.length_pos_iff.2 h0'
      obtain ⟨a, c, rfl⟩ := h1.lenp
      obtain ⟨a', c', rfl⟩ := h2.lenp
      obtain ⟨b, o, rfl, _, _⟩ := h1.at p1
      obtain ⟨b', o', rfl, _, _⟩ := h2.at p2
      refine (Tryd.slices_Equal_int b o _ c b' o' _ c' xs ys w (Nat.le_refl _) (Nat.le_refl _) (by omega) (by omega) ?_ ?_).mono ?_
      · intro j hj
        obtain ⟨b1, o1, e, _, hc⟩ := h1.at hj
        injection e with e; injection e with e1 e2
        subst e1 e2
        exact hc
      · intro j hj
        obtain ⟨b1, o1, e, _, hc⟩ := h2.at hj
        injection e with e; injection e with e1 e2
        subst e1 e2
        exact hc
      · rintro e w' ⟨rfl, q, rfl⟩
        rw [List.take_length, List.take_length]
        exact ⟨rfl, below_drewN (Below.refl _ _) q⟩
  · obtain ⟨a, c, rfl⟩ := h1.lenp
    obtain ⟨a', c', rfl⟩ := h2.lenp
    refine (Tryd.slices_Equal_int_lens a a' _ c _ c' w hl).mono ?_
    rintro e w' ⟨rfl, rfl⟩
    have : (xs == ys) = false := by rw [beq_eq_false_iff_ne]; rintro rfl; exact hl rfl
    rw [this]
    exact ⟨rfl, Below.refl _ _⟩
theorem rd_new (k : IntKind) (w : World) (e : TypeId) (x : Int) : Rd k (w.alloc (.cells #[.int k x] e)) (.slice (some ⟨w.heap.size, 0, none⟩) 1 1) [x] := by
  refine ⟨_, 1, rfl, by simp, by simp, .inr ⟨w.heap.size, 0, rfl, by simp, fun j hj => ?_⟩⟩
  have : j = 0 := by simp at hj; omega
  subst this
  have h := (Boxed.new w e (.int k x)).cell
  exact h
theorem all_take_succ {α : Type} {p : α → Bool} {L : List α} {i : Nat} {x : α} (h : L[i]? = some x) : (L.take (i + 1)).all p = ((L.take i).all p && p x) := by
  rw [List.take_add_one, h, List.all_append]; simp
theorem not_all {α : Type} {p : α → Bool} {L : List α} {i : Nat} {x : α} (h : L[i]? = some x) (hp : p x = false) : L.all p = false := by
  rw [List.all_eq_false]; exact ⟨x, List.mem_of_getElem? h, by simp [hp]⟩
theorem wire_listed (L : List (List Int)) (v : Value) (w : World) (hR : RdRows w v L) :
    Calls Tryd.prog 56 #[v] w fun e w' => e = .returned (.bool (listB L)) ∧ Below w.heap.size w w' := by
  have hB : Hid (listB L = (!(decide (16 < L.length) || decide (L = [[-1]])) && L.all partB)) := rfl
  generalize listB L = X at hB ⊢
  obtain ⟨a, c, rfl⟩ := hR.len
  obtain ⟨n, hn⟩ : ∃ n, L.length = n := ⟨_, rfl⟩
  have HN := Lib.hid hn
  have HR := Lib.hid hR
  clear hR
  rw [hn] at hB ⊢
  clear hn
  go_enter Tryd.func56, Tryd.ntmps56
  by_cases h16 : 16 < n
  · have h16' : (16 : Int) < n := by omega
    go_wp2
    go_ret
    exact ⟨by rw [hB.out, decide_eq_true h16]; rfl, Below.refl _ _⟩
  · have hle : (n : Int) ≤ 16 := by omega
    rw [decide_eq_false h16] at hB
    have hloop : ∀ (W : World), Below w.heap.size w W → Hid (RdRows W (.slice a n c) L) := fun W hb => by
      have := HR.out.below hb
      rw [HN.out] at this
      exact this
    by_cases h1 : n = 1
    · subst h1
      obtain ⟨p, hp⟩ : ∃ p, L[0]? = some p := ⟨_, List.getElem?_eq_getElem (by rw [HN.out]; decide)⟩
      have hLp : L = [p] := by
        cases L with
        | nil => simp at hp
        | cons x r =>
          have := HN.out
          have hr : r = [] := List.eq_nil_of_length_eq_zero (by simp only [List.length_cons] at this; omega)
          subst hr
          simp at hp
          rw [hp]
      have hRp := HR.out
      rw [HN.out] at hRp
      obtain ⟨b, o, u, rfl, hlt, hu, hRu⟩ := hRp.at hp
      obtain ⟨ua, uc, rfl⟩ := hRu.lenp
      have hE := Lib.hid (eq_ints p [-1] _ _ (w.alloc (.cells #[.int .i64 (-1)] 3)) (hRu.below (below_alloc (Below.refl _ _) _)) (rd_new .i64 w 3 (-1)))
      have hq : Hid (decide (L = [[-1]]) = (p == [-1])) := by
        show _ = _
        rw [hLp, Bool.eq_iff_iff]; simp
      rw [hq.out] at hB
      clear hRu hRp hq
      generalize (p == [-1]) = q at hE hB
      rw [Nat.add_zero] at hu
      have hz : b < w.heap.size := hlt
      have hu' : (w.alloc (.cells #[.int .i64 (-1)] 3)).cell? ⟨b, o, none⟩ = some (.slice ua p.length uc) := ((below_alloc (Below.refl _ w) _).cell (p := ⟨b, o, none⟩) hlt).trans hu
      cases q
      · go_wp2_with (first | (go_at_call 53; refine hE.out.mono ?_; rintro e w2 ⟨rfl, hb2⟩))
        have hb := below_then (below_alloc (Below.refl w.heap.size w) _) hb2
        have hRW := hloop _ hb
        have HBB := Lib.hid hb
        clear hE hb2 hu hu' hp hLp hloop hb
        go_loop [23] (fun s23 => ∃ i : Nat, s23 = .int .i64 i ∧ i ≤ 1 ∧ (L.take i).all partB = true) (fun s23 => 1 - (intOf s23).toNat)
        case atStart => exact ⟨0, rfl, by omega, rfl⟩
        case round =>
          obtain ⟨i, rfl, hi, hall⟩ := hrel
          have HA := Lib.hid hall
          clear hall
          by_cases hin : i < 1
          · obtain ⟨x, hx⟩ : ∃ x, L[i]? = some x := ⟨_, List.getElem?_eq_getElem (by rw [HN.out]; exact hin)⟩
            obtain ⟨b, o, u, hab, hlt, hu, hRu⟩ := hRW.out.at hx
            cases hab
            obtain ⟨ua, uc, rfl⟩ := hRu.lenp
            have hC := Lib.hid (sl_ContainsFunc x _ w2 hRu)
            have hpB : Hid (partB x = (!(x.any outP) && decide (1 ≤ x.length) && decide (x.length ≤ 8))) := rfl
            have htk := Lib.hid (all_take_succ (p := partB) hx)
            have hna := Lib.hid (fun h => not_all (p := partB) hx h)
            have hml := hRu.le
            obtain ⟨m, hm⟩ : ∃ m, x.length = m := ⟨_, rfl⟩
            rw [hm] at hu hC hpB hml
            clear hRu hx hm
            generalize x.any outP = q at hC hpB
            rcases (by cases q <;> simp; omega : q = true ∨ (q = false ∧ (m : Int) < 1) ∨ (q = false ∧ (1 : Int) ≤ m ∧ (8 : Int) < m) ∨ (q = false ∧ (1 : Int) ≤ m ∧ (m : Int) ≤ 8)) with rfl | ⟨rfl, hm1⟩ | ⟨rfl, hm1, hm8⟩ | ⟨rfl, hm1, hm8⟩
            · go_wp2_with (first | (go_at_call 66; refine hC.out.mono ?_; rintro e w3 ⟨rfl, rfl⟩))
              go_ret
              exact ⟨by rw [hB.out, hna.out (by rw [hpB.out]; rfl)]; simp, HBB.out⟩
            · go_wp2_with (first | (go_at_call 66; refine hC.out.mono ?_; rintro e w3 ⟨rfl, rfl⟩))
              go_ret
              exact ⟨by rw [hB.out, hna.out (by rw [hpB.out, decide_eq_false (show ¬ 1 ≤ m by omega)]; rfl)]; simp, HBB.out⟩
            · go_wp2_with (first | (go_at_call 66; refine hC.out.mono ?_; rintro e w3 ⟨rfl, rfl⟩))
              go_ret
              exact ⟨by rw [hB.out, hna.out (by rw [hpB.out, decide_eq_false (show ¬ m ≤ 8 by omega)]; simp)]; simp, HBB.out⟩
            · go_wp2_with (first | (go_at_call 66; refine hC.out.mono ?_; rintro e w3 ⟨rfl, rfl⟩))
              go_round
              case rel => exact ⟨i + 1, by go_num, by omega, by rw [htk.out, HA.out, hpB.out, decide_eq_true (show 1 ≤ m by omega), decide_eq_true (show m ≤ 8 by omega)]; rfl⟩
              case measure => simp [intOf]; omega
          · obtain rfl : i = 1 := by omega
            go_wp2
            go_ret
            have := HA.out
            have e2 : L.take 1 = L := by rw [← HN.out, List.take_length]
            rw [e2] at this
            exact ⟨by rw [hB.out, this]; rfl, HBB.out⟩
      · go_wp2_with (first | (go_at_call 53; refine hE.out.mono ?_; rintro e w2 ⟨rfl, hb2⟩))
        go_ret
        exact ⟨by rw [hB.out]; rfl, below_then (below_alloc (Below.refl w.heap.size w) _) hb2⟩
    · have h1' : (n : Int) ≠ 1 := by omega
      have h1'' : ((n : Int) == 1) = false := by rw [beq_eq_false_iff_ne]; exact h1'
      have hq : Hid (decide (L = [[-1]]) = false) := by
        refine decide_eq_false ?_
        rintro rfl
        exact h1 HN.out.symm
      rw [hq.out] at hB
      have HBB := Lib.hid (Below.refl w.heap.size w)
      have hRW := hloop _ HBB.out
      clear hq hloop h1 h1'
      go_wp2
      go_loop [23] (fun s23 => ∃ i : Nat, s23 = .int .i64 i ∧ i ≤ n ∧ (L.take i).all partB = true) (fun s23 => n - (intOf s23).toNat)
      case atStart => exact ⟨0, rfl, by omega, rfl⟩
      case round =>
        obtain ⟨i, rfl, hi, hall⟩ := hrel
        have HA := Lib.hid hall
        clear hall
        by_cases hin : i < n
        · obtain ⟨x, hx⟩ : ∃ x, L[i]? = some x := ⟨_, List.getElem?_eq_getElem (by rw [HN.out]; exact hin)⟩
          obtain ⟨b, o, u, hab, hlt, hu, hRu⟩ := hRW.out.at hx
          cases hab
          obtain ⟨ua, uc, rfl⟩ := hRu.lenp
          have hC := Lib.hid (sl_ContainsFunc x _ w hRu)
          have hpB : Hid (partB x = (!(x.any outP) && decide (1 ≤ x.length) && decide (x.length ≤ 8))) := rfl
          have htk := Lib.hid (all_take_succ (p := partB) hx)
          have hna := Lib.hid (fun h => not_all (p := partB) hx h)
          have hml := hRu.le
          obtain ⟨m, hm⟩ : ∃ m, x.length = m := ⟨_, rfl⟩
          rw [hm] at hu hC hpB hml
          clear hRu hx hm
          generalize x.any outP = q at hC hpB
          rcases (by cases q <;> simp; omega : q = true ∨ (q = false ∧ (m : Int) < 1) ∨ (q = false ∧ (1 : Int) ≤ m ∧ (8 : Int) < m) ∨ (q = false ∧ (1 : Int) ≤ m ∧ (m : Int) ≤ 8)) with rfl | ⟨rfl, hm1⟩ | ⟨rfl, hm1, hm8⟩ | ⟨rfl, hm1, hm8⟩
          · go_wp2_with (first | (go_at_call 66; refine hC.out.mono ?_; rintro e w3 ⟨rfl, rfl⟩))
            go_ret
            exact ⟨by rw [hB.out, hna.out (by rw [hpB.out]; rfl)]; simp, HBB.out⟩
          · go_wp2_with (first | (go_at_call 66; refine hC.out.mono ?_; rintro e w3 ⟨rfl, rfl⟩))
            go_ret
            exact ⟨by rw [hB.out, hna.out (by rw [hpB.out, decide_eq_false (show ¬ 1 ≤ m by omega)]; rfl)]; simp, HBB.out⟩
          · go_wp2_with (first | (go_at_call 66; refine hC.out.mono ?_; rintro e w3 ⟨rfl, rfl⟩))
            go_ret
            exact ⟨by rw [hB.out, hna.out (by rw [hpB.out, decide_eq_false (show ¬ m ≤ 8 by omega)]; simp)]; simp, HBB.out⟩
          · go_wp2_with (first | (go_at_call 66; refine hC.out.mono ?_; rintro e w3 ⟨rfl, rfl⟩))
            go_round
            case rel => exact ⟨i + 1, by go_num, by omega, by rw [htk.out, HA.out, hpB.out, decide_eq_true (show 1 ≤ m by omega), decide_eq_true (show m ≤ 8 by omega)]; rfl⟩
            case measure => simp [intOf]; omega
        · have : i = n := by omega
          subst this
          go_wp2
          go_ret
          have := HA.out
          have e2 : L.take i = L := by rw [← HN.out, List.take_length]
          rw [e2] at this
          exact ⟨by rw [hB.out, this]; rfl, HBB.out⟩
end Go.Proofs.YthllkfbegdmdkaaDoor
