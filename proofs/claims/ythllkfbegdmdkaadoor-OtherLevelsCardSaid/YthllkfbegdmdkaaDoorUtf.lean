import Derived.Test.YthllkfbegdmdkaaDoorBase
namespace Go.Proofs.YthllkfbegdmdkaaDoor
open Go.RowKit
set_option linter.unusedSimpArgs false
set_option linter.unusedVariables false

/-! ### utf.is, utf.sizes, utf.Put -/
def cp (r : Int) : Bool := decide (0 ≤ r ∧ r ≤ 1114111 ∧ (r < 55296 ∨ 57343 < r))
set_option maxHeartbeats 400000 in
theorem utf_is (r : Int) (w : World) :
    Calls Tryd.prog 42 #[.int .i64 r] w fun e w' => e = .returned (.bool (cp r)) ∧ w = w' := by
  go_enter Tryd.func42, Tryd.ntmps42
  go_wp2
  all_goals go_ret
  all_goals refine ⟨congrArg (fun b => Ending.returned (.bool b)) ?_, rfl⟩
  all_goals (rw [Bool.eq_iff_iff]; simp [cp]; omega)
theorem build_size (a b c d : Int) (w : World) : (Instr.build 81 #[(0, .int .i64 a), (1, .int .i64 b), (2, .int .u8 c), (3, .int .u8 d)]).run Tryd.prog w = .ok (.agg #[.int .i64 a, .int .i64 b, .int .u8 c, .int .u8 d]) w := by kernel_rfl
theorem build_sizes (a b c d e f g h i j k l m n o p : Value) (w : World) : (Instr.build 82 #[(0, .agg #[a,b,c,d]), (1, .agg #[e,f,g,h]), (2, .agg #[i,j,k,l]), (3, .agg #[m,n,o,p])]).run Tryd.prog w = .ok (.agg #[a,b,c,d,e,f,g,h,i,j,k,l,m,n,o,p]) w := by kernel_rfl

def sizesV : Value := .agg #[.int .i64 1, .int .i64 127, .int .u8 0, .int .u8 127, .int .i64 2, .int .i64 2047, .int .u8 192, .int .u8 31, .int .i64 3, .int .i64 65535, .int .u8 224, .int .u8 15, .int .i64 4, .int .i64 1114111, .int .u8 240, .int .u8 7]
set_option maxRecDepth 100000 in
set_option maxHeartbeats 400000 in
theorem utf_sizes (w : World) :
    Calls Tryd.prog 43 #[] w fun e w' => e = .returned sizesV ∧ Below w.heap.size w w' := by
  go_enter Tryd.func43, Tryd.ntmps43
  go_wp2_with (first | ((with_reducible apply wpList_build 81); exact rfl; exact rfl; apply build_size; case hp => exact rfl) | ((with_reducible apply wpList_build 82); exact rfl; exact rfl; apply build_sizes; case hp => exact rfl) | ((with_reducible apply wpList_store_new 82); exact rfl; exact rfl; exact rfl; exact rfl; exact rfl; kernel_rfl; rfl; rfl))
  refine bodyPost_ret (results_cell_row Tryd.results43 _ _ w.heap.size 82 _ (0, 0) _ rfl (heap_alloc_new _ _) Tryd.underlying82 rfl (by kernel_rfl)) rfl ⟨rfl, below_alloc (Below.refl _ _) _⟩

/-- The bytes of a code point. -/
def putL (r : Int) : List Int :=
  if r < 128 then [r] else if r < 2048 then [192 + r / 64, 128 + r % 64] else if r < 65536 then [224 + r / 4096, 128 + r / 64 % 64, 128 + r % 64]
  else [240 + r / 262144, 128 + r / 4096 % 64, 128 + r / 64 % 64, 128 + r % 64]
def utfPut (r : Int) : List Int := if cp r = true then putL r else []

theorem putL_1 {r : Int} (_ : 0 ≤ r) (h1 : r < 128) : putL r = [r] := by rw [putL, if_pos h1]
theorem putL_2 {r : Int} (h0 : 128 ≤ r) (h1 : r < 2048) : putL r = [192 + r / 64, 128 + r % 64] := by rw [putL, if_neg (by omega), if_pos h1]
theorem putL_3 {r : Int} (h0 : 2048 ≤ r) (h1 : r < 65536) : putL r = [224 + r / 4096, 128 + r / 64 % 64, 128 + r % 64] := by rw [putL, if_neg (by omega), if_neg (by omega), if_pos h1]
theorem putL_4 {r : Int} (h0 : 65536 ≤ r) (_ : r < 1114112) : putL r = [240 + r / 262144, 128 + r / 4096 % 64, 128 + r / 64 % 64, 128 + r % 64] := by rw [putL, if_neg (by omega), if_neg (by omega), if_neg (by omega)]
theorem size_at0 (w : World) : (Instr.index 82 sizesV (.int .i64 0)).run Tryd.prog w = .ok (.agg #[.int .i64 1, .int .i64 127, .int .u8 0, .int .u8 127]) w := by kernel_rfl
theorem size_at1 (w : World) : (Instr.index 82 sizesV (.int .i64 1)).run Tryd.prog w = .ok (.agg #[.int .i64 2, .int .i64 2047, .int .u8 192, .int .u8 31]) w := by kernel_rfl
theorem size_at2 (w : World) : (Instr.index 82 sizesV (.int .i64 2)).run Tryd.prog w = .ok (.agg #[.int .i64 3, .int .i64 65535, .int .u8 224, .int .u8 15]) w := by kernel_rfl
theorem size_at3 (w : World) : (Instr.index 82 sizesV (.int .i64 3)).run Tryd.prog w = .ok (.agg #[.int .i64 4, .int .i64 1114111, .int .u8 240, .int .u8 7]) w := by kernel_rfl
theorem mk_u8_1 (w : World) : (Instr.makeSlice 27 (.int .i64 1) (.int .i64 1)).run Tryd.prog w = .ok (.slice (some ⟨w.heap.size, 0, none⟩) 1 1) (w.alloc (.cells #[.int .u8 0] 5)) := by kernel_rfl
theorem mk_u8_2 (w : World) : (Instr.makeSlice 27 (.int .i64 2) (.int .i64 2)).run Tryd.prog w = .ok (.slice (some ⟨w.heap.size, 0, none⟩) 2 2) (w.alloc (.cells #[.int .u8 0, .int .u8 0] 5)) := by kernel_rfl
theorem mk_u8_3 (w : World) : (Instr.makeSlice 27 (.int .i64 3) (.int .i64 3)).run Tryd.prog w = .ok (.slice (some ⟨w.heap.size, 0, none⟩) 3 3) (w.alloc (.cells #[.int .u8 0, .int .u8 0, .int .u8 0] 5)) := by kernel_rfl
theorem mk_u8_4 (w : World) : (Instr.makeSlice 27 (.int .i64 4) (.int .i64 4)).run Tryd.prog w = .ok (.slice (some ⟨w.heap.size, 0, none⟩) 4 4) (w.alloc (.cells #[.int .u8 0, .int .u8 0, .int .u8 0, .int .u8 0] 5)) := by kernel_rfl
set_option maxRecDepth 100000 in
set_option maxHeartbeats 1000000 in
theorem utf_Put1 (r : Int) (w : World) (hc : cp r = true) (h0 : 0 ≤ r) (h1 : r < 128) :
    Calls Tryd.prog 22 #[.int .i64 r] w fun e w' => ∃ v, e = .returned v ∧ Own 5 .u8 w' w.heap.size v (putL r) ∧ Below w.heap.size w w' := by
  have hcp := Lib.hid hc
  clear hc
  have a0 := size_at0; have a1 := size_at1; have a2 := size_at2; have a3 := size_at3
  have m1 := mk_u8_1; have m2 := mk_u8_2; have m3 := mk_u8_3; have m4 := mk_u8_4
  go_enter Tryd.func22, Tryd.ntmps22
  go_wp2_with (first | (go_at_call 42; refine (utf_is _ _).mono ?_; rintro e w' ⟨rfl, rfl⟩; rw [hcp.out]) | (go_at_call 43; refine (utf_sizes _).mono ?_; rintro e w1 ⟨rfl, hb1⟩))
  refine wp_loop_rounds 1 ?_
  iterate 1 (rw [rounds_succ]; go_wp2)
  refine wp_loop_rounds 1 ?_
  iterate 1 (rw [rounds_succ]; go_wp2)
  go_ret
  have hz := hb1.size
  have t0 := tail_byte r (by omega) (by omega); have t1 := tail_byte (r / 64) (by omega) (by omega); have t2 := tail_byte (r / 4096) (by omega) (by omega)
  have e1 : r / 64 / 64 = r / 4096 := by omega
  have e2 : r / 4096 / 64 = r / 262144 := by omega
  rw [putL_1 h0 h1]
  refine ⟨_, rfl, Own.of_new' (by simp; omega) (by simp) (by simp) (by simp) ?_, by repeat (first | exact hb1 | apply below_alloc)⟩
  first | (rw [or_zero_byte r h0 (by omega)]; rfl) | simp only [t0, t1, t2, u8_or240 (r / 64 / 64 / 64) (by omega) (by omega), e1, e2, List.map_cons, List.map_nil]
set_option maxRecDepth 100000 in
set_option maxHeartbeats 1000000 in
theorem utf_Put2 (r : Int) (w : World) (hc : cp r = true) (h0 : 128 ≤ r) (h1 : r < 2048) :
    Calls Tryd.prog 22 #[.int .i64 r] w fun e w' => ∃ v, e = .returned v ∧ Own 5 .u8 w' w.heap.size v (putL r) ∧ Below w.heap.size w w' := by
  have hcp := Lib.hid hc
  clear hc
  have a0 := size_at0; have a1 := size_at1; have a2 := size_at2; have a3 := size_at3
  have m1 := mk_u8_1; have m2 := mk_u8_2; have m3 := mk_u8_3; have m4 := mk_u8_4
  go_enter Tryd.func22, Tryd.ntmps22
  go_wp2_with (first | (go_at_call 42; refine (utf_is _ _).mono ?_; rintro e w' ⟨rfl, rfl⟩; rw [hcp.out]) | (go_at_call 43; refine (utf_sizes _).mono ?_; rintro e w1 ⟨rfl, hb1⟩))
  refine wp_loop_rounds 2 ?_
  iterate 2 (rw [rounds_succ]; go_wp2)
  refine wp_loop_rounds 2 ?_
  iterate 2 (rw [rounds_succ]; go_wp2)
  go_ret
  have hz := hb1.size
  have t0 := tail_byte r (by omega) (by omega); have t1 := tail_byte (r / 64) (by omega) (by omega); have t2 := tail_byte (r / 4096) (by omega) (by omega)
  have e1 : r / 64 / 64 = r / 4096 := by omega
  have e2 : r / 4096 / 64 = r / 262144 := by omega
  rw [putL_2 h0 h1]
  refine ⟨_, rfl, Own.of_new' (by simp; omega) (by simp) (by simp) (by simp) ?_, by repeat (first | exact hb1 | apply below_alloc)⟩
  first | (rw [or_zero_byte r h0 (by omega)]; rfl) | simp only [t0, t1, t2, u8_or240 (r / 64 / 64 / 64) (by omega) (by omega), e1, e2, List.map_cons, List.map_nil]
set_option maxRecDepth 100000 in
set_option maxHeartbeats 1000000 in
theorem utf_Put3 (r : Int) (w : World) (hc : cp r = true) (h0 : 2048 ≤ r) (h1 : r < 65536) :
    Calls Tryd.prog 22 #[.int .i64 r] w fun e w' => ∃ v, e = .returned v ∧ Own 5 .u8 w' w.heap.size v (putL r) ∧ Below w.heap.size w w' := by
  have hcp := Lib.hid hc
  clear hc
  have a0 := size_at0; have a1 := size_at1; have a2 := size_at2; have a3 := size_at3
  have m1 := mk_u8_1; have m2 := mk_u8_2; have m3 := mk_u8_3; have m4 := mk_u8_4
  go_enter Tryd.func22, Tryd.ntmps22
  go_wp2_with (first | (go_at_call 42; refine (utf_is _ _).mono ?_; rintro e w' ⟨rfl, rfl⟩; rw [hcp.out]) | (go_at_call 43; refine (utf_sizes _).mono ?_; rintro e w1 ⟨rfl, hb1⟩))
  refine wp_loop_rounds 3 ?_
  iterate 3 (rw [rounds_succ]; go_wp2)
  refine wp_loop_rounds 3 ?_
  iterate 3 (rw [rounds_succ]; go_wp2)
  go_ret
  have hz := hb1.size
  have t0 := tail_byte r (by omega) (by omega); have t1 := tail_byte (r / 64) (by omega) (by omega); have t2 := tail_byte (r / 4096) (by omega) (by omega)
  have e1 : r / 64 / 64 = r / 4096 := by omega
  have e2 : r / 4096 / 64 = r / 262144 := by omega
  rw [putL_3 h0 h1]
  refine ⟨_, rfl, Own.of_new' (by simp; omega) (by simp) (by simp) (by simp) ?_, by repeat (first | exact hb1 | apply below_alloc)⟩
  first | (rw [or_zero_byte r h0 (by omega)]; rfl) | simp only [t0, t1, t2, u8_or240 (r / 64 / 64 / 64) (by omega) (by omega), e1, e2, List.map_cons, List.map_nil]
set_option maxRecDepth 100000 in
set_option maxHeartbeats 1000000 in
theorem utf_Put4 (r : Int) (w : World) (hc : cp r = true) (h0 : 65536 ≤ r) (h1 : r < 1114112) :
    Calls Tryd.prog 22 #[.int .i64 r] w fun e w' => ∃ v, e = .returned v ∧ Own 5 .u8 w' w.heap.size v (putL r) ∧ Below w.heap.size w w' := by
  have hcp := Lib.hid hc
  clear hc
  have a0 := size_at0; have a1 := size_at1; have a2 := size_at2; have a3 := size_at3
  have m1 := mk_u8_1; have m2 := mk_u8_2; have m3 := mk_u8_3; have m4 := mk_u8_4
  go_enter Tryd.func22, Tryd.ntmps22
  go_wp2_with (first | (go_at_call 42; refine (utf_is _ _).mono ?_; rintro e w' ⟨rfl, rfl⟩; rw [hcp.out]) | (go_at_call 43; refine (utf_sizes _).mono ?_; rintro e w1 ⟨rfl, hb1⟩))
  refine wp_loop_rounds 4 ?_
  iterate 4 (rw [rounds_succ]; go_wp2)
  refine wp_loop_rounds 4 ?_
  iterate 4 (rw [rounds_succ]; go_wp2)
  go_ret
  have hz := hb1.size
  have t0 := tail_byte r (by omega) (by omega); have t1 := tail_byte (r / 64) (by omega) (by omega); have t2 := tail_byte (r / 4096) (by omega) (by omega)
  have e1 : r / 64 / 64 = r / 4096 := by omega
  have e2 : r / 4096 / 64 = r / 262144 := by omega
  rw [putL_4 h0 h1]
  refine ⟨_, rfl, Own.of_new' (by simp; omega) (by simp) (by simp) (by simp) ?_, by repeat (first | exact hb1 | apply below_alloc)⟩
  first | (rw [or_zero_byte r h0 (by omega)]; rfl) | simp only [t0, t1, t2, u8_or240 (r / 64 / 64 / 64) (by omega) (by omega), e1, e2, List.map_cons, List.map_nil]
set_option maxRecDepth 100000 in
set_option maxHeartbeats 400000 in
theorem utf_Put0 (r : Int) (w : World) (hc : cp r = false) :
    Calls Tryd.prog 22 #[.int .i64 r] w fun e w' => e = .returned (.slice none 0 0) ∧ w = w' := by
  have hcp := Lib.hid hc
  clear hc
  go_enter Tryd.func22, Tryd.ntmps22
  go_wp2_with (first | (go_at_call 42; refine (utf_is _ _).mono ?_; rintro e w' ⟨rfl, rfl⟩; rw [hcp.out]))
  go_ret
  exact ⟨rfl, rfl⟩
/-- utf.Put: the bytes of a code point, or nothing. -/
theorem utf_Put (r : Int) (w : World) :
    Calls Tryd.prog 22 #[.int .i64 r] w fun e w' => ∃ v, e = .returned v ∧ Own 5 .u8 w' w.heap.size v (utfPut r) ∧ Below w.heap.size w w' := by
  by_cases hc : cp r = true
  · have hb : 0 ≤ r ∧ r < 1114112 := by rw [cp, decide_eq_true_eq] at hc; omega
    rw [utfPut, if_pos hc]
    by_cases h1 : r < 128
    · exact utf_Put1 r w hc hb.1 h1
    by_cases h2 : r < 2048
    · exact utf_Put2 r w hc (by omega) h2
    by_cases h3 : r < 65536
    · exact utf_Put3 r w hc (by omega) h3
    · exact utf_Put4 r w hc (by omega) hb.2
  · rw [utfPut, if_neg hc]
    exact (utf_Put0 r w (by simpa using hc)).mono fun e w' ⟨he, hw⟩ => ⟨_, he, ⟨by simp, World.ownsRow_nil _ _ _ _⟩, hw ▸ Below.refl _ _⟩
end Go.Proofs.YthllkfbegdmdkaaDoor
