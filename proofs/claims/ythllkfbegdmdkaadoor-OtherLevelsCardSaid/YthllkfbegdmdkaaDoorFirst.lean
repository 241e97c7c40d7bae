/- strings.ContainsRune at the bytes that open something. -/
import Derived.Test.YthllkfbegdmdkaaDoorListed
import Derived.Deep.QuietTactic
import Derived.BigQuiet
import Derived.WalkMore
import Derived.ScopeJumps
namespace Go.Proofs.YthllkfbegdmdkaaDoor
open Go.RowKit
set_option linter.unusedSimpArgs false
set_option linter.unusedVariables false
set_option maxRecDepth 100000
set_option maxHeartbeats 1000000

theorem quiet_same_behind {P : Program} {f : FuncId} {args : Array Value} {w : World} {a n : Nat} {v : Value}
    (h : Calls P f args (w.drewN (a + n)) fun e w' => e = .returned v ∧ w' = w.drewN (a + n)) :
    Calls P f args (w.drewN (a + n)) fun e w'' => e = .returned v ∧ ∃ m, w'' = w.drewN (a + m) :=
  h.mono fun _ _ ⟨he, hm⟩ => ⟨he, n, hm⟩
theorem encode_high (r : Int) (h0 : 128 ≤ r) (h1 : r ≤ 255) : ∃ c1 c2 : UInt8, Utf8.encode r = ⟨#[c1, c2]⟩ ∧ 128 ≤ c2.toNat := by
  have h : ∀ k : Fin 256, 128 ≤ k.val → Utf8.encode (k.val : Int) = ⟨#[UInt8.ofNat (192 + k.val / 64), UInt8.ofNat (128 + k.val % 64)]⟩ ∧ 128 ≤ (UInt8.ofNat (128 + k.val % 64)).toNat := by decide +kernel
  have h2 := h ⟨r.toNat, by omega⟩ (by show 128 ≤ r.toNat; omega)
  rw [show (((⟨r.toNat, by omega⟩ : Fin 256).val : Nat) : Int) = r from by simp; omega] at h2
  exact ⟨_, _, h2⟩
theorem indexByte_not (l : BL) (c : UInt8) (h : c ∉ l) : Lib.indexByte l c = -1 := by
  induction l with
  | nil => rfl
  | cons x r ih =>
    unfold Lib.indexByte
    have hx : (x == c) = false := by rw [beq_eq_false_iff_ne]; rintro rfl; exact h (List.mem_cons_self ..)
    rw [hx, ih (fun h' => h (List.mem_cons_of_mem _ h'))]
    rfl
theorem IndexByte_high (s : ByteArray) (hs : (s.data.toList.all fun x => decide (x.toNat < 128)) = true) (c : UInt8) (hc : 128 ≤ c.toNat) (w : World) :
    Calls Tryd.prog 87 #[.string s, .int .u8 c.toNat] w fun e w' => e = .returned (.int .i64 (-1)) ∧ w' = w := by
  refine (Tryd.strings_IndexByte s c.toNat w).mono ?_
  rintro e w' ⟨rfl, rfl⟩
  rw [show ((c.toNat : Int)).toNat.toUInt8 = c from by simp, indexByte_not]
  · exact ⟨rfl, rfl⟩
  · intro h
    have := List.all_eq_true.1 hs c h
    simp at this
    omega
theorem IndexRune_high (r : Int) (h0 : 128 ≤ r) (h1 : r ≤ 255) (w : World) :
    Calls Tryd.prog 78 #[.string ⟨#[79, 80, 88, 91, 93, 92, 94, 95]⟩, .int .i32 r] w fun e w' => e = .returned (.int .i64 (-1)) ∧ Below w.heap.size w w' := by
  obtain ⟨c1, c2, hE, h2⟩ := encode_high r h0 h1
  have hval : Lib.validRune r = true := by unfold Lib.validRune; simp; omega
  have hV := Tryd.utf8_ValidRune r w
  have hI := Lib.hid (fun s hs w => IndexByte_high s hs c2 h2 w)
  have hne : ((80 : Int) != (c2.toNat : Int)) = true := by rw [bne_iff_ne]; omega
  go_enter Tryd.func78, Tryd.ntmps78
  go_wp2_with (first | (go_at_call 88; refine hV.mono ?_; rintro e w' ⟨rfl, rfl⟩; rw [hval]))
  go_step3
  go_wp2
  refine wp_loop_rounds 1 ?_
  rw [rounds_succ]
  go_wp2
  go_step3
  go_wp2
  go_quiet (fail)
  go_wp2
  · go_quiet ((go_at_call 87; exact quiet_same_behind (hI.out _ (by decide +kernel) _)))
    go_wp2
    simp only [Exit.noGoto_ret]
    go_wp2
    simp only [Exit.noGoto_ret]
    go_wp2
    go_ret
    exact ⟨rfl, below_drewN (Below.refl _ _) _⟩
  · exfalso
    have hh : ((80 : Int) != (c2.toNat : Int)) = false := by assumption
    rw [hne] at hh
    cases hh
theorem contains_first (f : UInt8) (w : World) :
    Calls Tryd.prog 68 #[.string ⟨#[79, 80, 88, 91, 93, 92, 94, 95]⟩, .int .i32 f.toNat] w fun e w' => e = .returned (.bool (firstsL.contains f)) ∧ Below w.heap.size w w' := by
  have hf := f.toNat_lt
  by_cases h : f.toNat < 128
  · refine (Tryd.strings_ContainsRune_ascii _ f.toNat w (by omega) (by omega)).mono ?_
    rintro e w' ⟨rfl, rfl⟩
    refine ⟨?_, Below.refl _ _⟩
    have hk : ∀ k : Fin 128, decide (0 ≤ Lib.indexByte [79, 80, 88, 91, 93, 92, 94, 95] (UInt8.ofNat k.val)) = firstsL.contains (UInt8.ofNat k.val) := by decide +kernel
    have := hk ⟨f.toNat, h⟩
    simp only [UInt8.ofNat_toNat] at this
    rw [← this, show ((f.toNat : Int)).toNat.toUInt8 = f from by simp]
  · have hc : firstsL.contains f = false := by
      cases hq : firstsL.contains f with
      | false => rfl
      | true =>
        exfalso
        have : f ∈ firstsL := by simpa using hq
        simp only [firstsL, List.mem_cons, List.not_mem_nil, or_false] at this
        rcases this with rfl | rfl | rfl | rfl | rfl | rfl | rfl | rfl <;> exact h (by decide)
    rw [hc]
    have hR := Lib.hid (fun w => IndexRune_high f.toNat (by omega) (by omega) w)
    generalize (f.toNat : Int) = r at hR ⊢
    go_enter Tryd.func68, Tryd.ntmps68
    go_wp2_with (first | (go_at_call 78; refine (hR.out _).mono ?_; rintro e w2 ⟨rfl, hb2⟩))
    go_ret
    exact ⟨rfl, hb2⟩
end Go.Proofs.YthllkfbegdmdkaaDoor
