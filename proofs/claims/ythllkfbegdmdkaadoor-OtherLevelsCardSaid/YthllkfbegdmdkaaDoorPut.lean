/- wire.Put. -/
import Derived.Test.YthllkfbegdmdkaaDoorGlue
import Derived.Test.YthllkfbegdmdkaaDoorBody
namespace Go.Proofs.YthllkfbegdmdkaaDoor
open Go.RowKit
set_option linter.unusedSimpArgs false
set_option linter.unusedVariables false
set_option maxRecDepth 100000
set_option maxHeartbeats 4000000

theorem bodyL_len (s : SeqS) (hL : listB s.params = true) (hi : s.inter.length ≤ 2) : (bodyL s).length ≤ 3000 := by
  obtain ⟨hl16, _, hpart⟩ := listB_parts hL
  have hq := join_le 176 (s.params.map oneL) [59] (by
    intro x hx
    obtain ⟨p, hp, rfl⟩ := List.mem_map.1 hx
    exact oneL_len (hpart p hp))
  have h1 : (parL s.params).length ≤ 177 * s.params.length := by
    rw [List.length_map] at hq
    have : ([59] : BL).length = 1 := rfl
    rw [this] at hq
    exact hq
  unfold bodyL
  rw [List.length_append, List.length_append, List.length_append]
  have h2 : (if s.priv = 0 then [] else [s.priv] : BL).length ≤ 1 := by split <;> simp
  simp only [List.length_cons, List.length_nil]
  omega
theorem mayE_parts {s : SeqS} (h : mayE s = 0) : s.data.length ≤ 4096 ∧ s.inter.length ≤ 2 ∧ listB s.params = true := by
  unfold mayE at h
  split at h
  · cases h
  · split at h
    · rename_i h1 h2
      simp only [okB, Bool.and_eq_true, decide_eq_true_eq] at h2
      exact ⟨by omega, h2.1.1.1.2.1, h2.1.1.2⟩
    · cases h
theorem mayE_cases (s : SeqS) : mayE s = 0 ∨ mayE s = 1 ∨ mayE s = 4 := by
  unfold mayE; split
  · exact .inr (.inr rfl)
  · split
    · exact .inl rfl
    · exact .inr (.inl rfl)
def putE (s : SeqS) : BL := if mayE s = 0 then putB s else []
theorem two_of_row {w : World} {g : Nat} {a b : Value} {t : TypeId} {j : Nat} {x : BL} {xs : List BL} (h : w.heap[g]? = some (.cells (xs.map fun x => Value.string (ba x)).toArray t (0, 0))) (hx : xs[j]? = some x) : w.cell? ⟨g, j, none⟩ = some (.string (ba x)) := by
  rw [cell_of_row _ _ _ _ _ _ h]
  simp [hx]
theorem Own.base {e : TypeId} {k : IntKind} {w : World} {b b' : Nat} {v : Value} {xs : List Int} (h : Own e k w b v xs) (hb : b' ≤ b) : Own e k w b' v xs := by
  obtain ⟨h1, h2, h3⟩ := h
  refine ⟨h1, h2, h3.imp id ?_⟩
  rintro ⟨g, cap, cur, e1, hg, h⟩
  exact ⟨g, cap, cur, e1, Nat.le_trans hb hg, h⟩
theorem glue_new (xs : List BL) (n : Nat) (hn : xs.length = n) (hn10 : n ≤ 10) (w : World) (hB : ∀ x ∈ xs, x.length ≤ 10000) :
    Calls Tryd.prog 37 #[.slice (some ⟨w.heap.size, 0, none⟩) n n] (w.alloc (.cells (xs.map fun x => Value.string (ba x)).toArray 9)) fun e w' => ∃ v, e = .returned v ∧ Own 5 .u8 w' w.heap.size v (bI (27 :: xs.flatten)) ∧ Below w.heap.size w w' :=
  (wire_glue w.heap.size n xs _ hn (by rw [World.size_alloc]; exact Nat.lt_succ_self _) hn10 (fun j x hx => by
    rw [cell_of_row _ _ _ _ _ _ (heap_alloc_new w _)]
    simp [hx]) hB).mono (by
  rintro e w' ⟨v, rfl, ho, hb⟩
  exact ⟨v, rfl, ho.base (by rw [World.size_alloc]; exact Nat.le_succ _), below_then (below_alloc (Below.refl _ _) _) hb⟩)
theorem wire_Put (s : SeqS) (pv : Value) (w : World) (hR : RdRows w pv s.params) (ht : Tab w) :
    Calls Tryd.prog 17 #[s.v pv] w fun e w' => ∃ v, e = .returned (.tuple #[v, .int .i64 (mayE s)]) ∧ Own 5 .u8 w' w.heap.size v (bI (putE s)) ∧ Below w.heap.size w w' := by
  have hM := Lib.hid (fun w' (hb : Below w.heap.size w w') => wire_May s pv w' (hR.below hb))
  rcases (by rcases mayE_cases s with h | h | h <;> simp [h] : mayE s = 0 ∨ mayE s ≠ 0) with h0 | h0
  · obtain ⟨hd, hi, hL⟩ := mayE_parts h0
    have hBl := bodyL_len s hL hi
    have hB := Lib.hid (fun w' (hb : Below w.heap.size w w') => wire_body s pv w' (hR.below hb) (ht.below hb) hL (by omega))
    have hP : putE s = putB s := if_pos h0
    rw [hP, h0]
    rw [h0] at hM
    have hPB : Hid (putB s = 27 :: (if s.kind = 1 then 91 :: bodyL s else if s.kind = 2 then [79, s.final] else if s.kind = 3 then 80 :: (bodyL s ++ (s.data ++ [27, 92])) else if s.kind = 4 then 93 :: (s.data ++ [27, 92]) else bodyL s)) := rfl
    have hcvN : ∀ W : World, (convert 27 9 (.slice (some ⟨W.heap.size, 0, none⟩) 1 1)).run Tryd.prog (W.alloc (.cells #[.int .u8 s.final.toNat] 5)) = .ok (.string (ba [s.final])) (W.alloc (.cells #[.int .u8 s.final.toNat] 5)) := fun W => conv_back1 s.final _ _ (Boxed.new W _ _).cell
    generalize putB s = X at hPB ⊢
    obtain ⟨a, c, rfl⟩ := hR.len
    clear hR hP h0 ht hL
    unfold SeqS.v at hM hB ⊢
    generalize bodyL s = B at *
    obtain ⟨k, p0, L, I, f, D⟩ := s
    simp only at *
    have hg1 := Lib.hid (show ∀ (W : World) (n : Nat), n = W.heap.size → Calls Tryd.prog 37 #[.slice (some ⟨n, 0, none⟩) 2 2] (W.alloc (.cells #[.string ⟨#[91]⟩, .string (ba B)] 9)) (fun e w' => ∃ v, e = .returned v ∧ Own 5 .u8 w' W.heap.size v (bI (27 :: ([[91], B] : List BL).flatten)) ∧ Below W.heap.size W w') from fun W n hn => by subst hn; exact glue_new [[91], B] 2 rfl (by decide) W (by simp; omega))
    have hg2 := Lib.hid (show ∀ (W : World) (n : Nat), n = W.heap.size → Calls Tryd.prog 37 #[.slice (some ⟨n, 0, none⟩) 2 2] (W.alloc (.cells #[.string ⟨#[79]⟩, .string (ba [f])] 9)) (fun e w' => ∃ v, e = .returned v ∧ Own 5 .u8 w' W.heap.size v (bI (27 :: ([[79], [f]] : List BL).flatten)) ∧ Below W.heap.size W w') from fun W n hn => by subst hn; exact glue_new [[79], [f]] 2 rfl (by decide) W (by simp))
    have hg3 := Lib.hid (show ∀ (W : World) (n : Nat), n = W.heap.size → Calls Tryd.prog 37 #[.slice (some ⟨n, 0, none⟩) 4 4] (W.alloc (.cells #[.string ⟨#[80]⟩, .string (ba B), .string (ba D), .string ⟨#[27, 92]⟩] 9)) (fun e w' => ∃ v, e = .returned v ∧ Own 5 .u8 w' W.heap.size v (bI (27 :: ([[80], B, D, [27, 92]] : List BL).flatten)) ∧ Below W.heap.size W w') from fun W n hn => by subst hn; exact glue_new [[80], B, D, [27, 92]] 4 rfl (by decide) W (by simp; omega))
    have hg4 := Lib.hid (show ∀ (W : World) (n : Nat), n = W.heap.size → Calls Tryd.prog 37 #[.slice (some ⟨n, 0, none⟩) 3 3] (W.alloc (.cells #[.string ⟨#[93]⟩, .string (ba D), .string ⟨#[27, 92]⟩] 9)) (fun e w' => ∃ v, e = .returned v ∧ Own 5 .u8 w' W.heap.size v (bI (27 :: ([[93], D, [27, 92]] : List BL).flatten)) ∧ Below W.heap.size W w') from fun W n hn => by subst hn; exact glue_new [[93], D, [27, 92]] 3 rfl (by decide) W (by simp; omega))
    have hg5 := Lib.hid (show ∀ (W : World) (n : Nat), n = W.heap.size → Calls Tryd.prog 37 #[.slice (some ⟨n, 0, none⟩) 1 1] (W.alloc (.cells #[.string (ba B)] 9)) (fun e w' => ∃ v, e = .returned v ∧ Own 5 .u8 w' W.heap.size v (bI (27 :: ([B] : List BL).flatten)) ∧ Below W.heap.size W w') from fun W n hn => by subst hn; exact glue_new [B] 1 rfl (by decide) W (by simp; omega))
    have fin : ∀ (v : Value) (W W' : World) (Y : BL), Own 5 .u8 W' W.heap.size v (bI (27 :: Y)) → Below W.heap.size W W' → Below w.heap.size w W → 27 :: Y = X →
        (∃ u, Ending.returned (Value.tuple #[v, .int .i64 0]) = Ending.returned (Value.tuple #[u, .int .i64 0]) ∧ Own 5 .u8 W' w.heap.size u (bI X) ∧ Below w.heap.size w W') := fun v W W' Y h1 h2 h3 h4 =>
      ⟨v, rfl, by rw [← h4]; exact h1.base h3.size, below_then h3 h2⟩
    generalize (p0.toNat : Int) = P at *
    generalize (f.toNat : Int) = F at *
    by_cases k1 : k = 1
    · subst k1
      rw [if_pos rfl] at hPB
      clear hcvN
      go_enter Tryd.func17, Tryd.ntmps17
      go_wp2_with (first
        | (go_at_call 36; refine (hM.out _ (below_alloc (Below.refl _ _) _)).mono ?_; rintro e w2 ⟨rfl, hb2⟩; obtain ⟨q0, q1, q2, q3, q4, q5⟩ := key_cells hb2)
        | (go_at_call 38; refine (hB.out _ (below_then (below_alloc (Below.refl _ _) _) hb2)).mono ?_; rintro e w3 ⟨rfl, hb3⟩)
        | (go_at_call 37; ((with_reducible refine (hg1.out _ _ (by simp)).mono ?_); rintro e w4 ⟨v, rfl, ho, hb4⟩)))
      go_ret2
      exact fin v _ _ _ ho hb4 (below_then (below_then (below_alloc (Below.refl _ _) _) hb2) hb3) (by rw [hPB.out]; simp)
    · rw [if_neg k1] at hPB
      have k1' : (k == 1) = false := by rw [beq_eq_false_iff_ne]; exact k1
      by_cases k2 : k = 2
      · subst k2
        rw [if_pos rfl] at hPB
        go_enter Tryd.func17, Tryd.ntmps17
        go_wp2_with (first
          | (go_at_call 36; refine (hM.out _ (below_alloc (Below.refl _ _) _)).mono ?_; rintro e w2 ⟨rfl, hb2⟩; obtain ⟨q0, q1, q2, q3, q4, q5⟩ := key_cells hb2)
          | (go_at_call 37; ((with_reducible refine (hg2.out _ _ (by simp)).mono ?_); rintro e w4 ⟨v, rfl, ho, hb4⟩)))
        go_ret2
        exact fin v _ _ _ ho hb4 (by repeat (first | exact (below_then (below_alloc (Below.refl _ _) _) hb2) | apply below_alloc)) (by rw [hPB.out]; simp)
      · rw [if_neg k2] at hPB
        have k2' : (k == 2) = false := by rw [beq_eq_false_iff_ne]; exact k2
        by_cases k3 : k = 3
        · subst k3
          rw [if_pos rfl] at hPB
          clear hcvN
          go_enter Tryd.func17, Tryd.ntmps17
          go_wp2_with (first
            | (go_at_call 36; refine (hM.out _ (below_alloc (Below.refl _ _) _)).mono ?_; rintro e w2 ⟨rfl, hb2⟩; obtain ⟨q0, q1, q2, q3, q4, q5⟩ := key_cells hb2))
          go_region_with (first | (go_at_call 38; refine (hB.out _ ?_).mono ?_; (repeat (first | exact below_then (below_alloc (Below.refl _ _) _) hb2 | apply below_drew)); rintro e w3 ⟨rfl, hb3⟩; obtain ⟨r0, r1, r2, r3, r4, r5⟩ := key_cells (below_new hb3 (below_drew hb2))) | (go_at_call 37; ((with_reducible refine (hg3.out _ _ (by simp)).mono ?_); rintro e w4 ⟨v, rfl, ho, hb4⟩)))
          all_goals
            go_wp2
            go_ret2
            exact fin v _ _ _ ho hb4 (by repeat (first | exact below_then (below_then (below_alloc (Below.refl _ _) _) hb2) (below_new hb3 (below_drew (Below.refl _ _))) | apply below_drew)) (by rw [hPB.out]; simp)
        · rw [if_neg k3] at hPB
          have k3' : (k == 3) = false := by rw [beq_eq_false_iff_ne]; exact k3
          by_cases k4 : k = 4
          · subst k4
            rw [if_pos rfl] at hPB
            clear hcvN
            go_enter Tryd.func17, Tryd.ntmps17
            go_wp2_with (first
              | (go_at_call 36; refine (hM.out _ (below_alloc (Below.refl _ _) _)).mono ?_; rintro e w2 ⟨rfl, hb2⟩; obtain ⟨q0, q1, q2, q3, q4, q5⟩ := key_cells hb2)
              | (go_at_call 37; ((with_reducible refine (hg4.out _ _ (by simp)).mono ?_); rintro e w4 ⟨v, rfl, ho, hb4⟩)))
            go_ret2
            exact fin v _ _ _ ho hb4 (below_then (below_alloc (Below.refl _ _) _) hb2) (by rw [hPB.out]; simp)
          · rw [if_neg k4] at hPB
            have k4' : (k == 4) = false := by rw [beq_eq_false_iff_ne]; exact k4
            clear hcvN
            go_enter Tryd.func17, Tryd.ntmps17
            go_wp2_with (first
              | (go_at_call 36; refine (hM.out _ (below_alloc (Below.refl _ _) _)).mono ?_; rintro e w2 ⟨rfl, hb2⟩; obtain ⟨q0, q1, q2, q3, q4, q5⟩ := key_cells hb2)
              | (go_at_call 38; refine (hB.out _ (below_then (below_alloc (Below.refl _ _) _) hb2)).mono ?_; rintro e w3 ⟨rfl, hb3⟩)
              | (go_at_call 37; ((with_reducible refine (hg5.out _ _ (by simp)).mono ?_); rintro e w4 ⟨v, rfl, ho, hb4⟩)))
            go_ret2
            exact fin v _ _ _ ho hb4 (below_then (below_then (below_alloc (Below.refl _ _) _) hb2) hb3) (by rw [hPB.out]; simp)
  · have hP : putE s = [] := if_neg h0
    rw [hP]
    have hne : (mayE s != 0) = true := by rw [bne_iff_ne]; exact h0
    generalize mayE s = m at hM hne ⊢
    obtain ⟨a, c, rfl⟩ := hR.len
    clear hR hP h0
    unfold SeqS.v at hM ⊢
    generalize (s.priv.toNat : Int) = P at *
    generalize (s.final.toNat : Int) = F at *
    generalize ba s.inter = I at *
    generalize ba s.data = D at *
    go_enter Tryd.func17, Tryd.ntmps17
    go_wp2_with (first | (go_at_call 36; refine (hM.out _ (below_alloc (Below.refl _ _) _)).mono ?_; rintro e w2 ⟨rfl, hb2⟩))
    go_ret2
    exact ⟨_, rfl, ⟨by simp [bI], World.ownsRow_nil _ _ _ _⟩, below_then (below_alloc (Below.refl _ _) _) hb2⟩
end Go.Proofs.YthllkfbegdmdkaaDoor
