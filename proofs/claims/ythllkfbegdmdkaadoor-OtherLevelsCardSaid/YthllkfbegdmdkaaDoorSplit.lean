/- strings.SplitSeq as an iterator, at a separator of one byte. -/
import Derived.Test.YthllkfbegdmdkaaDoorNTake
import Derived.Test.YthllkfbegdmdkaaDoorAll
import Derived.Lib.IndexLaws
namespace Go.Proofs.YthllkfbegdmdkaaDoor
open Go.RowKit
set_option linter.unusedSimpArgs false
set_option linter.unusedVariables false
set_option maxRecDepth 100000
set_option maxHeartbeats 4000000
attribute [local go_sem] Oper.semAt_some

theorem index_split (c : UInt8) : ∀ l : BL, (Lib.indexByte l c = -1 ∧ splitB c l = [l]) ∨ (∃ k : Nat, Lib.indexByte l c = k ∧ k < l.length ∧ splitB c l = l.take k :: splitB c (l.drop (k + 1)))
  | [] => .inl ⟨rfl, rfl⟩
  | x :: r => by
    by_cases hx : x = c
    · subst hx
      refine .inr ⟨0, by simp [Lib.indexByte], by simp, ?_⟩
      simp [splitB]
    · have hb : (x == c) = false := by rw [beq_eq_false_iff_ne]; exact hx
      rcases index_split c r with ⟨h1, h2⟩ | ⟨k, h1, h2, h3⟩
      · refine .inl ⟨?_, ?_⟩
        · unfold Lib.indexByte; rw [hb, h1]; rfl
        · rw [splitB, if_neg hx, h2]
      · refine .inr ⟨k + 1, ?_, by simp; omega, ?_⟩
        · unfold Lib.indexByte
          have : ((k : Int) == -1) = false := by rw [beq_eq_false_iff_ne]; omega
          rw [hb, h1, this]; simp
        · rw [splitB, if_neg hx, h3]; rfl
theorem extract_take (l : BL) (k : Nat) (h : k ≤ l.length) : (ba l).extract 0 k = ba (l.take k) := by
  apply ByteArray.ext
  simp [ba, ByteArray.data_extract]
theorem extract_drop (l : BL) (k : Nat) : (ba l).extract k (ba l).size = ba (l.drop k) := by
  apply ByteArray.ext
  rw [ByteArray.data_extract, ba_size]
  simp [ba, List.take_of_length_le]
def strAt (bx : Nat) (w : World) : Nat := match w.cell? ⟨bx, 0, none⟩ with | some (.string s) => s.size | _ => 0
theorem strAt_eq {bx : Nat} {w : World} {s : ByteArray} (h : w.cell? ⟨bx, 0, none⟩ = some (.string s)) : strAt bx w = s.size := by simp [strAt, h]
theorem split1_seq (sb b1 b3 : Nat) (c : UInt8) (l0 : BL) (W : World) (n₀ : Nat) (hn : n₀ ≤ sb) (hn1 : n₀ ≤ b1) (hn3 : n₀ ≤ b3) (hd1 : sb ≠ b1) (hd3 : sb ≠ b3)
    (hs : W.cell? ⟨sb, 0, none⟩ = some (.string (ba l0))) (hf : W.frozen? ⟨sb, 0, none⟩ = false) (hsep : W.cell? ⟨b1, 0, none⟩ = some (.string ⟨#[c]⟩)) (hsv : W.cell? ⟨b3, 0, none⟩ = some (.int .i64 0)) (hl0 : l0.length ≤ 1000000000) :
    SeqC Tryd.prog 82 #[.pointer (some ⟨b1, 0, none⟩), .pointer (some ⟨sb, 0, none⟩), .pointer (some ⟨b3, 0, none⟩)] ((splitB c l0).map fun x => #[.string (ba x)]) n₀ (fun k => k = sb ∨ k = b1 ∨ k = b3) W := by
  intro l J Jx c₀ hS hJc hJxc hJ hJx hY h0
  refine callsIn_of_wp Tryd.func82 rfl trivial ?_
  simp only [Tryd.ntmps82, List.size_toArray, List.length_cons, List.length_nil, Nat.reduceAdd, Nat.reduceSub, Array.replicate_succ, Array.replicate_zero, List.push_toArray, List.append_toArray, List.nil_append, List.cons_append]
  obtain ⟨X, hX⟩ : ∃ X, X = splitB c l0 := ⟨_, rfl⟩
  rw [← hX] at hY ⊢
  have hsz1 : ((⟨#[c]⟩ : ByteArray).size : Int) = 1 := rfl
  gi_wp2
  gi_loopw [] (fun wr => ∃ (i : Nat) (l' : BL) (cc : Nat → Prop), Hid (X.drop i = splitB c l') ∧ i < X.length ∧ wr.cell? ⟨sb, 0, none⟩ = some (.string (ba l')) ∧ wr.frozen? ⟨sb, 0, none⟩ = false ∧ wr.cell? ⟨b1, 0, none⟩ = some (.string ⟨#[c]⟩) ∧ wr.cell? ⟨b3, 0, none⟩ = some (.int .i64 0) ∧ W.heap.size ≤ wr.heap.size ∧ J i cc wr ∧ (∀ k, (k = sb ∨ k = b1 ∨ k = b3) → ¬ cc k) ∧ l'.length ≤ 1000000000)
    (fun wr => strAt sb wr)
  case atStart =>
    refine ⟨0, l0, c₀, by rw [hX]; rfl, ?_, hs, hf, hsep, hsv, Nat.le_refl _, h0, hS, hl0⟩
    rw [hX]
    rcases index_split c l0 with ⟨_, h⟩ | ⟨k, _, _, h⟩ <;> rw [h] <;> simp
  case round =>
    obtain ⟨i, l', cc, hdrop, hiX, hcell, hfr, hc1, hc3, hWs, hj, hSc, hlen⟩ := hrel
    have hI := Lib.hid (fun w => Tryd.strings_Index_one (ba l') c w)
    rw [ba_data] at hI
    have hag0 : ∀ w1, Below wr.heap.size wr w1 → J i cc w1 := fun w1 hb1 => hJ i cc wr w1 hj (Agree.of_below hb1)
    rcases index_split c l' with ⟨h1, h2⟩ | ⟨k, h1, h2, h3⟩
    · rw [h1] at hI
      have hXi : X.drop i = [l'] := by rw [hdrop.out, h2]
      have hY1 : YieldAt Fence.wide 1 Tryd.prog l #[.string (ba l')] wr fun e A' =>
            (e = Ending.returned (Value.bool true) ∧ ∃ c', J (i + 1) c' A') ∨ (e = Ending.returned (Value.bool false) ∧ ∃ c', Jx i c' A') :=
        (hY i _ cc wr (by
          have h2 := List.getElem?_drop (xs := X) (i := i) (j := 0)
          rw [hXi] at h2
          rw [List.getElem?_map, ← Nat.add_zero i, ← h2]; rfl) hj).mono (by
          rintro e A' (⟨rfl, c', h, _⟩ | ⟨rfl, c', h, _⟩)
          · exact .inl ⟨rfl, c', h⟩
          · exact .inr ⟨rfl, c', h⟩)
      have hXl : Hid (X.length = i + 1) := by
        have h2 := congrArg List.length hXi
        rw [List.length_drop] at h2
        simp at h2
        show _ = _
        omega
      clear hXi h1 h2
      gi_wp2_with (first | (refine ⟨trivial, ?_⟩; gi_at_call 84; refine (callsIn_wide.2 (hI.out _)).mono ?_; rintro e w1 ⟨rfl, rfl⟩) | (obtain ⟨fn, tmps, assign, body, hy, hR⟩ := hY1))
      refine hR.mono ?_
      rintro e W' (⟨rfl, c', hj'⟩ | ⟨rfl, c', hjx'⟩)
      · gi_wp2
        go_end0
        refine ⟨⟨_, rfl⟩, .inl ⟨c', ?_⟩⟩
        rw [List.length_map, hXl.out]
        exact hj'
      · gi_wp2
        go_end0
        refine ⟨⟨_, rfl⟩, .inr ⟨i, c', ?_, hjx'⟩⟩
        rw [List.length_map]
        exact hiX
    · rw [h1] at hI
      have hXi : X.drop i = l'.take k :: splitB c (l'.drop (k + 1)) := by rw [hdrop.out, h3]
      have he1 := extract_take l' k (by omega)
      have he2 := extract_drop l' (k + 1)
      have hY1 : YieldAt Fence.wide 1 Tryd.prog l #[.string (ba (l'.take k))] wr fun e A' =>
            (e = Ending.returned (Value.bool true) ∧ ∃ c', J (i + 1) c' A' ∧ (∀ (k : Nat), c' k → cc k ∨ wr.heap.size ≤ k) ∧ Agree (fun k => ¬cc k) wr A') ∨ (e = Ending.returned (Value.bool false) ∧ ∃ c', Jx i c' A') :=
        (hY i _ cc wr (by
          have h2 := List.getElem?_drop (xs := X) (i := i) (j := 0)
          rw [hXi] at h2
          rw [List.getElem?_map, ← Nat.add_zero i, ← h2]; rfl) hj).mono (by
          rintro e A' (⟨rfl, c', h⟩ | ⟨rfl, c', h, _⟩)
          · exact .inl ⟨rfl, c', h⟩
          · exact .inr ⟨rfl, c', h⟩)
      have hX3 : Hid (X.drop (i + 1) = splitB c (l'.drop (k + 1)) ∧ i + 1 < X.length) := by
        refine ⟨by rw [← List.drop_drop, hXi]; rfl, ?_⟩
        have h2 := congrArg List.length hXi
        rw [List.length_drop] at h2
        have : 0 < (splitB c (l'.drop (k + 1))).length := by
          rcases index_split c (l'.drop (k + 1)) with ⟨_, h⟩ | ⟨k, _, _, h⟩ <;> rw [h] <;> simp
        simp at h2
        omega
      have hsz : (ba l').size = l'.length := ba_size l'
      have hk1 : (k : Int) < (ba l').size := by omega
      have hk2 : (ba l').size ≤ 1000000000 := by omega
      have hdl : (l'.drop (k + 1)).length = l'.length - (k + 1) := List.length_drop ..
      have HSZ := Lib.hid hsz
      have HE2 := Lib.hid he2
      have HDL := Lib.hid hdl
      clear hXi h1 h3 h2 he2 hsz hdl
      generalize hS' : ba l' = S at *
      generalize ba (l'.take k) = F at *
      clear hS'
      gi_wp2_with (first | (refine ⟨trivial, ?_⟩; gi_at_call 84; refine (callsIn_wide.2 (hI.out _)).mono ?_; rintro e w1 ⟨rfl, rfl⟩) | (obtain ⟨fn, tmps, assign, body, hy, hR⟩ := hY1))
      refine hR.mono ?_
      rintro e W' (⟨rfl, c', hj', hc', hag'⟩ | ⟨rfl, c', hjx'⟩)
      · have lsb := World.block_lt_of_cell? w1 _ hcell
        have k0 : W'.cell? ⟨sb, 0, none⟩ = some (.string S) := hag'.cell (hSc sb (.inl rfl)) hcell
        have k1 : W'.cell? ⟨b1, 0, none⟩ = some (.string ⟨#[c]⟩) := hag'.cell (hSc b1 (.inr (.inl rfl))) hc1
        have k3 : W'.cell? ⟨b3, 0, none⟩ = some (.int .i64 0) := hag'.cell (hSc b3 (.inr (.inr rfl))) hc3
        have kf : W'.frozen? ⟨sb, 0, none⟩ = false := (hag'.frozen (p := ⟨sb, 0, none⟩) (hSc sb (.inl rfl)) lsb).trans hfr
        have hsz := hag'.size
        obtain ⟨F2, hF2⟩ : ∃ F, ba (l'.drop (k + 1)) = F := ⟨_, rfl⟩
        have he2 := HE2.out
        rw [hF2] at he2
        have HF2 := Lib.hid hF2
        clear hF2
        gi_wp2
        go_roundw
        case rel =>
          have hsc : Agree (fun k => k ≠ sb) W' (W'.setCell ⟨sb, 0, none⟩ (.string F2)) := agree_set 0 _
          refine ⟨i + 1, l'.drop (k + 1), c', hX3.out.1, hX3.out.2, ?_, ?_, hsc.cell (fun h => hd1 h.symm) k1, hsc.cell (fun h => hd3 h.symm) k3, ?_, hJ _ _ _ _ hj' (hsc.mono ?_), ?_, ?_⟩
          · rw [HF2.out]; exact World.cell?_setCell_same' _ _ _ (by rw [k0]; rfl)
          · rw [World.frozen?_setCell]; exact kf
          · simp [World.setCell]; omega
          · rintro q _ (h | h) rfl
            · omega
            · rcases hc' _ h with h | h
              · exact hSc _ (.inl rfl) h
              · omega
          · intro q hq h
            rcases hc' _ h with h | h
            · exact hSc _ hq h
            · have l1 := World.block_lt_of_cell? w1 _ hc1
              have l3 := World.block_lt_of_cell? w1 _ hc3
              have l1' : b1 < w1.heap.size := l1
              have l3' : b3 < w1.heap.size := l3
              have l0' : sb < w1.heap.size := lsb
              rcases hq with rfl | rfl | rfl <;> omega
          · rw [HDL.out]; omega
        case measure =>
          rw [strAt_eq (World.cell?_setCell_same' _ _ _ (by rw [k0]; rfl)), strAt_eq hcell, ← HF2.out, ba_size, HDL.out, HSZ.out]
          have := HSZ.out
          omega
      · gi_wp2
        refine bodyPost_ret (results_none rfl _ _ _) rfl ⟨⟨_, rfl⟩, .inr ⟨i, c', ?_, hjx'⟩⟩
        rw [List.length_map]
        exact hiX
theorem strings_SplitSeq (l : BL) (c : UInt8) (w : World) :
    Calls Tryd.prog 60 #[.string (ba l), .string ⟨#[c]⟩] w fun e w' => e = .returned (.func (.func 82) #[] #[.pointer (some ⟨w.heap.size + 1, 0, none⟩), .pointer (some ⟨w.heap.size, 0, none⟩), .pointer (some ⟨w.heap.size + 2, 0, none⟩)]) ∧
      w' = ((w.alloc (.cells #[.string (ba l)] 9)).alloc (.cells #[.string ⟨#[c]⟩] 9)).alloc (.cells #[.int .i64 0] 3) := by
  generalize ba l = S
  go_enter Tryd.func60, Tryd.ntmps60
  go_wp2
  go_ret
  exact ⟨rfl, rfl⟩
end Go.Proofs.YthllkfbegdmdkaaDoor
