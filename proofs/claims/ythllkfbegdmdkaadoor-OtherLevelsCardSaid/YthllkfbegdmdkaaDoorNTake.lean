/- num.Take, wire.number. -/
import Derived.Test.YthllkfbegdmdkaaDoorCur
namespace Go.Proofs.YthllkfbegdmdkaaDoor
open Go.RowKit
set_option linter.unusedSimpArgs false
set_option linter.unusedVariables false
set_option maxRecDepth 100000
set_option maxHeartbeats 2000000

theorem take1 (x : UInt8) (w : World) : Calls Tryd.prog 85 #[.int .u8 x.toNat] w fun e w' => e = .returned (.bool (decide (48 ≤ x.toNat) && decide (x.toNat ≤ 57))) ∧ w = w' := by
  generalize x.toNat = n
  by_cases h1 : 48 ≤ n <;> by_cases h2 : n ≤ 57
  all_goals
    have z1 : (48 : Int) ≤ (n : Int) ↔ 48 ≤ n := by omega
    have z2 : (n : Int) ≤ 57 ↔ n ≤ 57 := by omega
    go_enter Tryd.func85, Tryd.ntmps85
    go_wp2
    all_goals first | (exfalso; omega) | (go_ret; exact ⟨by simp [h1, h2], rfl⟩)
theorem fold_range : ∀ (l : BL) (n : Int), 0 ≤ n → n ≤ 1114111 → (∀ c ∈ l, 48 ≤ c.toNat) → 0 ≤ l.foldl numStep n ∧ l.foldl numStep n ≤ 1114111
  | [], n, h0, h1, _ => ⟨h0, h1⟩
  | c :: l, n, h0, h1, h => by
    rw [List.foldl_cons]
    have hc := h c (List.mem_cons_self ..)
    refine fold_range l _ ?_ ?_ (fun d hd => h d (List.mem_cons_of_mem _ hd))
    · unfold numStep; omega
    · unfold numStep; omega
theorem num_Take (b : BL) (v : Value) (w : World) (hR : Rd .u8 w v (bI b)) :
    Calls Tryd.prog 74 #[v] w fun e w' => e = .returned (.tuple #[.int .i64 (numV b), .int .i64 ((b.takeWhile digB).length : Int)]) ∧ w = w' := by
  obtain ⟨a, c, rfl⟩ := hR.lenp
  rw [bI_len] at hR ⊢
  have hle := hR.le
  rw [bI_len] at hle
  obtain ⟨n, hn⟩ : ∃ n, b.length = n := ⟨_, rfl⟩
  have hrun : runB b 0 48 57 = b.takeWhile digB := by unfold runB digB; rw [List.drop_zero]
  obtain ⟨T, hT⟩ : ∃ T, (b.takeWhile digB).length = T := ⟨_, rfl⟩
  obtain ⟨hin, hout⟩ := runB_facts b 48 57 T 0 (by rw [hrun]; exact hT)
  have hTn : T ≤ n := by have := runB_len_le b 0 48 57 (Nat.zero_le _); rw [hrun] at this; omega
  have hpre : b.takeWhile digB = b.take T := by rw [← hT]; exact List.prefix_iff_eq_take.1 (List.takeWhile_prefix _)
  have HV : Hid (numV b = (b.take T).foldl numStep 0) := by show _ = _; rw [numV, hpre]
  have HIN := Lib.hid hin
  have HOUT := Lib.hid hout
  have HR := Lib.hid hR
  have HN := Lib.hid hn
  have hrange : ∀ i, i ≤ T → 0 ≤ (b.take i).foldl numStep 0 ∧ (b.take i).foldl numStep 0 ≤ 1114111 := fun i hi => by
    refine fold_range _ 0 (by omega) (by omega) ?_
    intro x hx
    obtain ⟨j, hj, e⟩ := List.getElem_of_mem hx
    have hj2 : j < i := by rw [List.length_take] at hj; omega
    have hj3 : j < b.length := by rw [List.length_take] at hj; omega
    have := (hin j (by omega)).2.1
    rw [Nat.zero_add] at this
    have e2 : peekB b j = x := by
      unfold peekB
      rw [List.getD_eq_getElem?_getD, List.getElem?_eq_getElem hj3, ← e, List.getElem_take]; rfl
    rw [e2, le_u8] at this
    simpa using this
  have HRG := Lib.hid hrange
  rw [hn, hT]
  generalize numV b = V at HV ⊢
  rw [hn] at hle
  clear hin hout hR hn hrange hpre hrun hT
  go_enter Tryd.func74, Tryd.ntmps74
  go_wp2
  go_loop [5, 9] (fun s5 s9 => ∃ i : Nat, s9 = .int .i64 i ∧ i ≤ T ∧ s5 = .int .i64 ((b.take i).foldl numStep 0)) (fun _ s9 => n - (intOf s9).toNat)
  case atStart => exact ⟨0, rfl, by omega, rfl⟩
  case round =>
    obtain ⟨i, rfl, hi, rfl⟩ := hrel
    obtain ⟨hg0, hg1⟩ := HRG.out i hi
    obtain ⟨N, hN⟩ : ∃ N, (b.take i).foldl numStep 0 = N := ⟨_, rfl⟩
    rw [hN] at hg0 hg1 ⊢
    have HNN := Lib.hid hN
    clear hN
    by_cases hin : i < n
    · have hinI : (i : Int) < n := by omega
      have hR1 := HR.out
      rw [HN.out] at hR1
      obtain ⟨bb, o, rfl, hlt, hcell⟩ := hR1.at (j := i) (by rw [bI_len, HN.out]; exact hin)
      rw [bI_getD] at hcell
      have hC := Lib.hid (take1 (peekB b i) w)
      have hx256 := (peekB b i).toNat_lt
      by_cases hiT : i < T
      · obtain ⟨_, q2, q3⟩ := HIN.out i hiT
        rw [Nat.zero_add, le_u8] at q2 q3
        have HS : Hid ((b.take (i + 1)).foldl numStep 0 = min (10 * N + (((peekB b i).toNat : Int) - 48)) 1114111) := by
          show _ = _
          have hib : i < b.length := by rw [HN.out]; exact hin
          have e2 : peekB b i = b[i] := by unfold peekB; rw [List.getD_eq_getElem?_getD, List.getElem?_eq_getElem hib]; rfl
          rw [List.take_add_one, List.getElem?_eq_getElem hib, List.foldl_append, HNN.out, e2]
          rfl
        have q2' : 48 ≤ (peekB b i).toNat := by simpa using q2
        have q3' : (peekB b i).toNat ≤ 57 := by simpa using q3
        rw [decide_eq_true q2', decide_eq_true q3'] at hC
        have HIT := Lib.hid hiT
        generalize (peekB b i).toNat = x at hcell hC HS q2' q3' hx256
        have q4 : (48 : Int) ≤ x := by omega
        have q5 : (x : Int) ≤ 57 := by omega
        clear hR1 q2 q3 hiT
        go_wp2_with (first | (go_at_call 85; refine hC.out.mono ?_; rintro e w2 ⟨rfl, rfl⟩))
        go_round
        case measure => simp [intOf]; omega
        case rel =>
          refine ⟨i + 1, by go_num, by have := HIT.out; omega, ?_⟩
          rw [HS.out]
      · obtain rfl : i = T := by omega
        have HO := HOUT.out
        rw [Nat.zero_add] at HO
        have hno : (decide (48 ≤ (peekB b i).toNat) && decide ((peekB b i).toNat ≤ 57)) = false := by
          rw [Bool.eq_false_iff]
          intro h
          simp only [Bool.and_eq_true, decide_eq_true_eq] at h
          exact HO ⟨by rw [HN.out]; exact hin, by rw [le_u8]; simpa using h.1, by rw [le_u8]; simpa using h.2⟩
        rw [hno] at hC
        clear HO hno hR1
        generalize (peekB b i).toNat = x at hcell hC hx256
        go_wp2_with (first | (go_at_call 85; refine hC.out.mono ?_; rintro e w2 ⟨rfl, rfl⟩))
        go_ret2
        exact ⟨by rw [HV.out, HNN.out]; rfl, rfl⟩
    · obtain rfl : i = n := by omega
      obtain rfl : i = T := by omega
      go_wp2
      go_ret2
      exact ⟨by rw [HV.out, HNN.out]; rfl, rfl⟩
theorem wire_number (t : BL) (w : World) (hl : t.length ≤ 140737488355328) :
    Calls Tryd.prog 61 #[.string (ba t)] w fun e w' => e = .returned (.int .i64 (numberB t)) ∧ Below w.heap.size w w' := by
  by_cases h : t = []
  · subst h
    have hE : (ba []).toList.isEmpty = true := by rw [ba_empty]; rfl
    have hE2 : (ba ([] : BL)) = ⟨#[]⟩ := rfl
    rw [hE2]
    go_enter Tryd.func61, Tryd.ntmps61
    go_wp2
    go_ret
    exact ⟨rfl, Below.refl _ _⟩
  · have hE : (ba t).toList.isEmpty = false := by rw [ba_empty]; cases t with
      | nil => exact absurd rfl h
      | cons x r => rfl
    have hN : Hid (numberB t = numV t) := by show _ = _; rw [numberB, if_neg h]
    obtain ⟨cc, W1, hconv, hrd, hb1, _⟩ := conv_bytes (ba t) (by rw [ba_size]; exact hl) w
    rw [bytesOf_ba] at hrd
    have hT := Lib.hid (num_Take t _ W1 hrd)
    generalize numberB t = X at hN ⊢
    generalize numV t = V at hN hT
    generalize (t.takeWhile digB).length = T at hT
    generalize ba t = S at *
    clear hrd
    go_enter Tryd.func61, Tryd.ntmps61
    go_wp2_with (first | (go_at_call 74; refine hT.out.mono ?_; rintro e w2 ⟨rfl, rfl⟩))
    go_ret
    exact ⟨by rw [hN.out]; rfl, hb1⟩
end Go.Proofs.YthllkfbegdmdkaaDoor
