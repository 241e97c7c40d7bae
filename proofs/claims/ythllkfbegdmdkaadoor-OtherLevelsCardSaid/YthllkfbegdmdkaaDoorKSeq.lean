/- keys.all as an iterator: the walk. -/
import Derived.Test.YthllkfbegdmdkaaDoorKAll
namespace Go.Proofs.YthllkfbegdmdkaaDoor
open Go.RowKit
set_option linter.unusedSimpArgs false
set_option linter.unusedVariables false
attribute [local go_sem] Oper.semAt_some

theorem kbounds : ∀ r ∈ krows, 0 ≤ r.from_ ∧ r.from_ ≤ 60000 ∧ r.many ≤ 23 := by
  intro r hr
  simp only [krows, List.mem_cons, List.not_mem_nil, or_false] at hr
  rcases hr with rfl | rfl | rfl | rfl | rfl | rfl | rfl | rfl | rfl | rfl | rfl | rfl | rfl | rfl | rfl | rfl | rfl | rfl | rfl | rfl | rfl
  all_goals exact ⟨by decide, by decide, by decide⟩
set_option maxRecDepth 100000 in
set_option maxHeartbeats 8000000 in
theorem keys_all1_seq (W : World) (n₀ : Nat) (hn : n₀ ≤ W.heap.size) :
    SeqC Tryd.prog 39 #[] (kys krows) n₀ (fun _ => False) W := by
  intro l J Jx c₀ hS hJc hJxc hJ hJx hY h0
  refine callsIn_of_wp Tryd.func39 rfl trivial ?_
  simp only [Tryd.ntmps39, List.size_toArray, List.length_cons, List.length_nil, Nat.reduceAdd, Nat.reduceSub, Array.replicate_succ, Array.replicate_zero, List.push_toArray, List.append_toArray, List.nil_append, List.cons_append, Array.append_empty]
  obtain ⟨s, hs⟩ : ∃ s, W.heap.size = s := ⟨_, rfl⟩
  gi_wp2_with (refine ⟨trivial, ?_⟩; gi_at_call 40; refine (callsIn_wide.2 (keys_rows W)).mono ?_; rintro e w1 ⟨rfl, rfl⟩)
  have hkl : krows.length = 21 := rfl
  gi_loopw [7] (fun s7 wr => ∃ (k : Nat) (c : Nat → Prop), s7 = .int .i64 k ∧ k ≤ 21 ∧ J (koff k) c wr ∧ (∀ b, c b → b < s ∨ s + 7 ≤ b) ∧ Agree (fun b => s ≤ b ∧ b < s + 7) (rowsW W) wr)
    (fun s7 wr => 21 - (intOf s7).toNat)
  case atStart => exact ⟨0, c₀, rfl, by omega, hJ _ _ _ _ h0 (Agree.of_below (rowsW_below W)), fun b hb => .inl (by have := hJc _ _ _ h0 b hb; omega), Agree.refl _ _⟩
  case round =>
    obtain ⟨k, c, rfl, hk, hj, hc, hag⟩ := hrel
    by_cases hk21 : k = 21
    · subst hk21
      gi_wp2
      go_end0
      refine ⟨⟨_, rfl⟩, .inl ⟨c, ?_⟩⟩
      rw [← koff_end]; exact hj
    · have hk2 : k < 21 := by omega
      have hkI : (k : Int) < 21 := by omega
      obtain ⟨r, hr⟩ : ∃ r, krows[k]? = some r := ⟨_, List.getElem?_eq_getElem (by omega)⟩
      have hrow : wr.rangeAt (s + 6) (6 * k) (rowV s r) := fun j v hv => by
        have h := rowsW_row W k r hr
        rw [hs] at h
        exact hag.cell (p := ⟨s + 6, 6 * k + j, none⟩) ⟨by show s ≤ s + 6; omega, by show s + 6 < s + 7; omega⟩ (h j v hv)
      obtain ⟨na, nn, nc, hnv⟩ : ∃ na nn nc, numsV s r.nums = .slice na nn nc := by cases r.nums <;> exact ⟨_, _, _, rfl⟩
      have k0 : wr.cell? ⟨s + 6, k * 6, none⟩ = some (.int .i64 r.from_) := by rw [Nat.mul_comm]; exact hrow 0 _ rfl
      have k1 : wr.cell? ⟨s + 6, k * 6 + 1, none⟩ = some (.int .i64 r.many) := by rw [Nat.mul_comm]; exact hrow 1 _ rfl
      have k2 : wr.cell? ⟨s + 6, k * 6 + 2, none⟩ = some (.int .i64 r.kind) := by rw [Nat.mul_comm]; exact hrow 2 _ rfl
      have k3 : wr.cell? ⟨s + 6, k * 6 + 3, none⟩ = some (.string r.fin) := by rw [Nat.mul_comm]; exact hrow 3 _ rfl
      have k4 : wr.cell? ⟨s + 6, k * 6 + 4, none⟩ = some (.slice na nn nc) := by rw [Nat.mul_comm, ← hnv]; exact hrow 4 _ rfl
      have k5 : wr.cell? ⟨s + 6, k * 6 + 5, none⟩ = some (.string r.chars) := by rw [Nat.mul_comm]; exact hrow 5 _ rfl
      have hsz0 : s + 7 ≤ wr.heap.size := by have := hag.size; rw [rowsW_size, hs] at this; exact this
      have hsh := kbounds r (List.mem_of_getElem? hr)
      gi_wp2
      obtain ⟨q, hq⟩ : ∃ q, wr.heap.size = q := ⟨_, rfl⟩
      have hbq : (wr.alloc (Obj.cells #[Value.int .i64 r.from_, Value.int .i64 r.many, Value.int .i64 r.kind, Value.string r.fin, Value.slice na nn nc, Value.string r.chars] 79)).heap[q]? = some (Obj.cells #[Value.int .i64 r.from_, Value.int .i64 r.many, Value.int .i64 r.kind, Value.string r.fin, Value.slice na nn nc, Value.string r.chars] 79) := by rw [← hq]; exact heap_alloc_new _ _
      have hagq : Agree (fun _ => True) wr (wr.alloc (Obj.cells #[Value.int .i64 r.from_, Value.int .i64 r.many, Value.int .i64 r.kind, Value.string r.fin, Value.slice na nn nc, Value.string r.chars] 79)) := (Agree.refl _ _).alloc _
      have hsq : q < (wr.alloc (Obj.cells #[Value.int .i64 r.from_, Value.int .i64 r.many, Value.int .i64 r.kind, Value.string r.fin, Value.slice na nn nc, Value.string r.chars] 79)).heap.size := by simp; omega
      have hj1 := hJ _ _ _ _ hj (hagq.mono (fun _ _ _ => trivial))
      have hcq : ∀ b, c b → b ≠ q := fun b hb e => by have := hJc _ _ _ hj b hb; omega
      have hag1 := hag.trans (hagq.mono (fun _ _ _ => trivial))
      generalize wr.alloc (Obj.cells #[Value.int .i64 r.from_, Value.int .i64 r.many, Value.int .i64 r.kind, Value.string r.fin, Value.slice na nn nc, Value.string r.chars] 79) = W1 at hbq hsq hj1 hag1 ⊢
      rw [hq]
      gi_loopw [13] (fun s13 w1 => ∃ (i : Nat) (c' : Nat → Prop), s13 = .int .i64 i ∧ i ≤ r.many ∧ J (koff k + i) c' w1 ∧ (∀ b, c' b → b < s ∨ s + 7 ≤ b) ∧ (∀ b, c' b → b ≠ q) ∧ q < w1.heap.size ∧ Agree (fun b => s ≤ b ∧ b < s + 7) (rowsW W) w1 ∧ w1.heap[q]? = some (Obj.cells #[Value.int .i64 r.from_, Value.int .i64 r.many, Value.int .i64 r.kind, Value.string r.fin, Value.slice na nn nc, Value.string r.chars] 79))
        (fun s13 w1 => r.many - (intOf s13).toNat)
      case atStart => exact ⟨0, c, rfl, by omega, by simpa using hj1, hc, hcq, hsq, hag1, hbq⟩
      case round =>
        obtain ⟨i, c', rfl, hi, hj2, hc2, hcq2, hsq2, hag2, hbq2⟩ := hrel
        by_cases hir : i = r.many
        · subst hir
          gi_wp2
          go_roundw
          case rel => exact ⟨k + 1, c', by simp, by omega, by rw [koff_succ k r hr]; exact hj2, hc2, hag2⟩
          case measure => simp [intOf]; omega
        · have hi2 : i < r.many := by omega
          have hiI : (i : Int) < r.many := by omega
          have hw : wrap64 (r.from_ + i) = r.from_ + i := by unfold wrap64; omega
          have hw2 : IntKind.i64.wrap (r.from_ + i) = r.from_ + i := by rw [IntKind.wrap_i64]; omega
          have hcl : ∀ w2, Below wr.heap.size wr w2 → w2.heap[q]? = some (Obj.cells #[Value.int .i64 r.from_, Value.int .i64 r.many, Value.int .i64 r.kind, Value.string r.fin, Value.slice na nn nc, Value.string r.chars] 79) := fun w2 hb => (hb.block q hsq2).trans hbq2
          have g0 : wr.cell? ⟨q, 0, none⟩ = some (.int .i64 r.from_) := by rw [cell_of_row _ _ _ _ _ _ hbq2]; rfl
          have g1 : wr.cell? ⟨q, 1, none⟩ = some (.int .i64 r.many) := by rw [cell_of_row _ _ _ _ _ _ hbq2]; rfl
          have g2 : wr.cell? ⟨q, 2, none⟩ = some (.int .i64 r.kind) := by rw [cell_of_row _ _ _ _ _ _ hbq2]; rfl
          have g3 : wr.cell? ⟨q, 3, none⟩ = some (.string r.fin) := by rw [cell_of_row _ _ _ _ _ _ hbq2]; rfl
          have g4 : wr.cell? ⟨q, 4, none⟩ = some (.slice na nn nc) := by rw [cell_of_row _ _ _ _ _ _ hbq2]; rfl
          have g5 : wr.cell? ⟨q, 5, none⟩ = some (.string r.chars) := by rw [cell_of_row _ _ _ _ _ _ hbq2]; rfl
          have hent := Lib.hid (show ∀ w2, Below wr.heap.size wr w2 → Calls Tryd.prog 41 #[.agg #[.int .i64 r.from_, .int .i64 r.many, .int .i64 r.kind, .string r.fin, .slice na nn nc, .string r.chars], .int .i64 i] w2 fun e w' => e = .returned (kentry r i) ∧ Below w2.heap.size w2 w' from fun w2 hb2 => by
            have h := keys_entry r (List.mem_of_getElem? hr) s i hi2 w2 (by have := hag2.size; rw [rowsW_size, hs] at this; have := hb2.size; omega) (fun j x hj6 hx => by
              have h := rowsW_nums W j i x hj6 hx
              rw [hs] at h
              have h2 := hag2.cell (p := ⟨s + j, i, none⟩) ⟨by show s ≤ s + j; omega, by show s + j < s + 7; omega⟩ h
              exact (hb2.cell (p := ⟨s + j, i, none⟩) (World.block_lt_of_cell? wr _ h2)).trans h2)
            simp only [rowV, hnv] at h
            exact h)
          have hyy := Lib.hid (show ∀ w2, Below wr.heap.size wr w2 → YieldAt Fence.wide 1 Tryd.prog l #[.int .i64 (r.from_ + i), kentry r i] w2 fun e A' => ∃ bb, e = .returned (.bool bb) ∧
              ((bb = true ∧ ∃ c'', J (koff k + (i + 1)) c'' A' ∧ (∀ b, c'' b → c' b ∨ w2.heap.size ≤ b) ∧ Agree (fun b => ¬ c' b) w2 A') ∨ (bb = false ∧ ∃ c'', Jx (koff k + i) c'' A')) from fun w2 hb2 =>
            (hY (koff k + i) _ c' w2 (kys_at k i r hr hi2) (hJ _ _ _ _ hj2 (Agree.of_below hb2))).mono (by
              rintro e A' (⟨rfl, c'', h⟩ | ⟨rfl, c'', h, _⟩)
              · exact ⟨true, rfl, .inl ⟨rfl, c'', h⟩⟩
              · exact ⟨false, rfl, .inr ⟨rfl, c'', h⟩⟩))
          gi_wp2
          gi_region_with (first
            | (refine ⟨trivial, ?_⟩; gi_at_call 41; refine (callsIn_wide.2 (hent.out _ (below_drew (Below.refl _ _)))).mono ?_; rintro e w2 ⟨rfl, hb2'⟩; have hb2 : Below wr.heap.size wr w2 := below_then (below_drew (Below.refl _ _)) hb2'; have d0 : w2.cell? ⟨q, 0, none⟩ = some (.int .i64 r.from_) := (by rw [cell_of_row _ _ _ _ _ _ (hcl w2 hb2)]; rfl); obtain ⟨fn, tmps, assign, body, hy, hR⟩ := hyy.out w2 hb2)
            | (refine hR.mono ?_; rintro e W' ⟨bb, rfl, hbb⟩))
          all_goals
            have hsz2 := hb2.size
            have hszr : s + 7 ≤ wr.heap.size := by have := hag2.size; rw [rowsW_size, hs] at this; exact this
            rcases hbb with ⟨rfl, c'', hj3, hc3, hag3⟩ | ⟨rfl, c'', hjx⟩
          all_goals simp only [List.getElem_toArray, List.getElem_cons_succ, List.getElem_cons_zero, Act.put, List.setIfInBounds_toArray, List.set_cons_succ, List.set_cons_zero, Bool.not_true, Bool.not_false]
          all_goals gi_wp2
          all_goals first
            | (refine bodyPost_ret (results_none rfl _ _ _) rfl ⟨⟨_, rfl⟩, .inr ⟨koff k + i, c'', ?_, hjx⟩⟩
               exact (List.getElem?_eq_some_iff.1 (kys_at k i r hr hi2)).1)
            | (go_roundw
               case rel =>
                 have hsz3 := hag3.size
                 refine ⟨i + 1, c'', by simp, by omega, hj3, ?_, ?_, by omega, (hag2.trans (Agree.of_below hb2)).trans (hag3.mono ?_), ?_⟩
                 · exact fun b hb => (hc3 b hb).elim (hc2 b) (fun h => by omega)
                 · exact fun b hb => (hc3 b hb).elim (hcq2 b) (fun h => by omega)
                 · intro b _ hb h; have := hc2 b h; omega
                 · exact (hag3.block q (by omega) (fun h => hcq2 q h rfl)).trans (hcl w2 hb2)
               case measure => simp [intOf]; omega)
end Go.Proofs.YthllkfbegdmdkaaDoor
