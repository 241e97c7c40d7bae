/- The law OtherLevels: for every Modes and every Key (a text of whatever length), in every memory that holds the tables its row lists: the call returns true and both arguments read as before; the tie of the tables is the given one. -/
import Derived.Test.YthllkfbegdmdkaaDoorCards
import Derived.Test.YthllkfbegdmdkaaDoorTie
import Derived.Test.YthllkfbegdmdkaaDoorLev
import Derived.Test.YthllkfbegdmdkaaDoorFlat
namespace Go.Proofs.YthllkfbegdmdkaaDoor
open Go.Joins Go.ChangeShapes Go.WideShapes Go.ChangeAt Go.RowKit Go.Deep
set_option linter.unusedSimpArgs false
set_option linter.unusedVariables false
set_option maxRecDepth 100000

theorem laidMet_tail {P : Program} {x : String × DataW Unit} {rest : List (String × DataW Unit)} {W : World} (h : laidMet P (x :: rest) W) : laidMet P rest W := by
  obtain ⟨ps, ⟨g, t, cs, fuel, p, q, hg, ht, hvar, hd, hrest, hps⟩, hnd, hrows⟩ := h
  subst hps
  exact ⟨q, hrest, (List.nodup_append.1 hnd).2.1, fun b off hm => hrows b off (List.mem_append_right _ hm)⟩
theorem lev_own : ownKnob Tryd.prog.godebug = none := by kernel_rfl
theorem pow_tab {W : World} (h : laidMetH Tryd.prog Rows.otherLevelsRow.laid W) : Tab W := by
  have h1 : laidMet Tryd.prog Rows.otherLevelsRow.laid W := h
  have h2 : laidMet Tryd.prog (("internal/strconv.uint64pow10", Rows.laid_internal_strconv_uint64pow10) :: [("unicode/utf8.acceptRanges", Rows.laid_unicode_utf8_acceptRanges), ("unicode/utf8.first", Rows.laid_unicode_utf8_first)]) W := laidMet_tail (laidMet_tail h1)
  exact Lib.tabIs_of_head (g := 3) (n := 20) (by kernel_rfl) (by kernel_rfl) Tryd.underlying154 Tryd.underlying145 (by kernel_rfl) (by kernel_rfl) h2
theorem wf_in {n : Int} (h : (Lit.int .i64 n).wf = true) : in64 n := by
  simp [Lit.wf, IntKind.min, IntKind.max, IntKind.bits, IntKind.signed] at h
  unfold in64
  omega
theorem lev_contract (H : Type) (enc : TypeId × Value → H) (W : World) (base : Nat) (args : Array Value) (ds gs : List (DataW H)) (before : List MemPlace)
    (hval : ∀ (j : Nat) t v, Tryd.f3.params[j]? = some t → args[j]? = some v → Value.okWide Tryd.prog W .any base t v)
    (hW : DataW.Whole enc Tryd.prog Tryd.f3.params.toList Rows.otherLevelsSpec.vars false W args.toList ds gs before) (hL : laidMetH Tryd.prog Rows.otherLevelsRow.laid W) :
    Calls Tryd.prog 3 args W fun e W' => ∃ v, e = .returned v ∧ Rows.otherLevelsSpec.post enc Tryd.prog Tryd.f3 false true false false W args v W' := by
  have hW' := hW
  obtain ⟨p, q, hA0, hV, rfl, hfz, hnd⟩ := hW
  have hA : DataW.TrodAll enc Tryd.prog W 0 (fun _ => true) true Tryd.f3.params.toList args.toList ds p := hA0
  rw [Tryd.params3] at hA hval
  obtain ⟨v0, vs0, d0, ds0, p0, q0, hargs, rfl, rfl, h0, r0⟩ := trodAll_cons hA
  obtain ⟨v1, vs1, d1, ds1, p1, q1, hargs1, rfl, rfl, h1, r1⟩ := trodAll_cons r0
  obtain ⟨rfl, rfl, rfl⟩ := trodAll_nil r1
  subst hargs1
  obtain rfl : args = #[v0, v1] := by cases args; simp_all
  obtain ⟨rfl, rfl⟩ := trodVars_none hV
  obtain ⟨m, rfl, rfl, rfl, w7, w8, w9⟩ := open_mode (hval 0 _ v0 rfl rfl) h0
  obtain ⟨k, rfl, rfl, rfl, z0, z1, z2, z3, z4, z5⟩ := open_key (hval 1 _ v1 rfl rfl) h1
  clear hA0
  simp only [List.append_nil] at hW'
  have walk := lev_walk m k ⟨wf_in z0, wf_in z1, wf_in z2, wf_in z3, wf_in z4⟩ W (pow_tab hL)
  refine walk.mono fun e W' ⟨he, hg⟩ => ?_
  subst he
  exact ⟨_, rfl, post_flat hW' (fun _ _ _ => trodAll_cons_mk (shut_bool Tryd.underlying4 _) trodAll_mk0)
    (fun _ => trodAll_cons_mk (shut_mode m w7 w8 w9) (trodAll_cons_mk (shut_key k z0 z1 z2 z3 z4 z5) trodAll_mk0)) (fun _ => rfl) hg (ok_one (by kernel_rfl) rfl (okWide_bool_mk Tryd.underlying4 _))⟩
/-- The cells of plain data. -/
def flatD : Nat → DataW Unit → List Value
  | n + 1, .lit (.int k x) => [.int k x]
  | n + 1, .agg l => l.flatMap (flatD n)
  | _, _ => []
noncomputable def layAt (g : Nat) (d : DataW Unit) (h : Array Obj) : Array Obj := h.modify g fun
  | .cells _ t frozen => .cells (flatD 4 d).toArray t frozen
  | o => o
/-- A world for the witness: the settled one, each listed table holding what its initialiser lays. -/
noncomputable def laidWorld (os : Os) : World :=
  { World.holding Tryd.prog os ⟨#[], #[], []⟩ with heap := layAt 4 Rows.laid_math_bits_deBruijn32tab (layAt 5 Rows.laid_math_bits_deBruijn64tab (layAt 3 Rows.laid_internal_strconv_uint64pow10 (layAt 2 Rows.laid_unicode_utf8_acceptRanges (layAt 1 Rows.laid_unicode_utf8_first (World.holding Tryd.prog os ⟨#[], #[], []⟩).heap)))) }
def witArgs : Array Value := #[(mI 0).v, kI.v]
theorem laid_met (os : Os) : laidMet Tryd.prog Rows.otherLevelsRow.laid ((laidWorld os).forCall (fun _ _ => 0) ⟨#[], witArgs, []⟩).memory :=
  laidMet_of_run' 8 (by kernel_rfl) (by kernel_rfl)
theorem reads (os : Os) {H : Type} (enc : TypeId × Value → H) : ∃ places, DataW.whole enc Tryd.prog ((laidWorld os).forCall (fun _ _ => 0) ⟨#[], witArgs, []⟩).memory Tryd.f3.params.toList Rows.otherLevelsSpec.vars false witArgs.toList 8 = some ([modeD (mI 0), keyD kI], [], places) :=
  ⟨[], by kernel_rfl⟩
theorem lifted (os : Os) (started : os.Started) (H : Type) (enc : TypeId × Value → H) (F : Stop.Interp) :
    ReturnsInHanded {} Tryd.checked os 3 .any ((OpenSpec.ofChange Rows.otherLevelsSpec).preRow enc Tryd.prog Tryd.f3 Rows.otherLevelsRow.domain false Rows.otherLevelsRow.laid) (((OpenSpec.ofChange Rows.otherLevelsSpec).at F).post enc Tryd.prog Tryd.f3 false true false false) := by
  obtain ⟨places, hx⟩ := reads os enc
  refine returnsInHanded_of_row (C := Tryd.checked) (s := OpenSpec.ofChange Rows.otherLevelsSpec) lev_own started (by kernel_rfl) Tryd.func3
    (witness_row_at (enc := enc) (C := Tryd.checked) false (laidWorld os) witArgs rfl (by kernel_rfl) (by kernel_rfl) (by kernel_rfl)
      (OpenSpec.preRow_of_cond 8 hx (by kernel_rfl) (fun k hk => by cases hk) (by kernel_rfl) (laid_met os))) ?_
  intro W base args ds gs before hval hW _ _ _ hL _ _
  exact lev_contract H enc W base args ds gs before hval hW hL
theorem lev_said : Rows.OtherLevelsSaid :=
  OpenClaim.holds_of_cond 3 Tryd.f3 rfl rfl rfl rfl rfl rfl rfl ⟨rfl, rfl, rfl, rfl, rfl⟩ rfl rfl rfl rfl rfl (by kernel_rfl) Tryd.func3 (by kernel_rfl)
    (of_decide_eq_true (by kernel_rfl)) (by unfold Func.isWrapper; first | (rw [if_pos (by decide +kernel)]; kernel_rfl) | (rw [if_neg (by decide +kernel)]; exact ⟨rfl, rfl⟩))
    (fun os started H enc _ F => by rw [OpenClaim.pre_eq_preRow]; exact lifted os started H enc F)
theorem lev_plain (f : FuncId) (fn : Func) (hf : Tryd.pinned.checked.prog.funcNamed "clavier/clavierlaw12.OtherLevels" = some f) (hfn : Tryd.pinned.checked.prog.funcs[f]? = some fn) :
    false = Tryd.pinned.checked.prog.looks [] ∧ ∀ (j : Nat) t, fn.params[j]? = some t → Tryd.pinned.checked.prog.wantsStandIn t = false := by
  obtain rfl : f = 3 := Option.some.inj ((show Tryd.prog.funcNamed "clavier/clavierlaw12.OtherLevels" = some 3 by kernel_rfl).symm.trans hf) |>.symm
  obtain rfl : fn = Tryd.f3 := (Option.some.inj (Tryd.func3.symm.trans hfn)).symm
  refine ⟨by kernel_rfl, fun j t ht => ?_⟩
  rw [Tryd.params3] at ht
  rcases (by simpa using Array.mem_of_getElem? ht : t = 23 ∨ t = 25) with rfl | rfl
  · exact (show Tryd.prog.wantsStandIn 23 = false by kernel_rfl)
  · exact (show Tryd.prog.wantsStandIn 25 = false by kernel_rfl)
/-- The card. -/
theorem otherLevels_card : Rows.OtherLevelsCardSaid :=
  Claim7.holds_tied_plain_at .later [] _ _ _ _ lev_said (fun _ h => by cases h) (by kernel_rfl) (fun _ h => by cases h) otherLevels_row_tie rfl ⟨rfl, rfl⟩ (by kernel_rfl) rfl lev_plain (by kernel_rfl)
end Go.Proofs.YthllkfbegdmdkaaDoor
