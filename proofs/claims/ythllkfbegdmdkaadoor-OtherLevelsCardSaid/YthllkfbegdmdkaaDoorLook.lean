/- keys.Look. -/
import Derived.Test.YthllkfbegdmdkaaDoorKSeq
import Derived.Test.YthllkfbegdmdkaaDoorUtf
namespace Go.Proofs.YthllkfbegdmdkaaDoor
open Go.RowKit
set_option linter.unusedSimpArgs false
set_option linter.unusedVariables false
attribute [local go_sem] Oper.semAt_some

structure KEnt where
  kind : Int
  fin : Int
  num : Int
  char : Int
  keys : Bool
def KEnt.v (e : KEnt) : Value := .agg #[.int .i64 e.kind, .int .u8 e.fin, .int .i64 e.num, .int .i64 e.char, .bool e.keys]
def kent (r : KRow) (i : Nat) : KEnt := ⟨r.kind, if r.fin.size = 0 then 0 else sAt r.fin i, knum r.nums i, if r.chars.size = 0 then 0 else sAt r.chars i, decide (57399 ≤ r.from_) && (r.kind != 6) && (r.kind != 7)⟩
theorem kentry_eq (r : KRow) (i : Nat) : kentry r i = (kent r i).v := rfl
def klist : List (Int × KEnt) := krows.flatMap fun r => (List.range r.many).map fun (i : Nat) => (r.from_ + i, kent r i)
def kArgs (p : Int × KEnt) : Array Value := #[.int .i64 p.1, p.2.v]
theorem kys_klist : kys krows = klist.map kArgs := by
  unfold kys klist
  rw [List.map_flatMap]
  simp [Function.comp_def, kArgs, kentry_eq]
def klook (code : Int) : KEnt :=
  match klist.find? (fun p => p.1 == code) with
  | some p => p.2
  | none => if (code < 32 ∨ (127 ≤ code ∧ code ≤ 159)) ∨ (57344 ≤ code ∧ code < 63744) ∨ utfPut code = [] then ⟨0, 0, 0, 0, false⟩ else ⟨1, 0, 0, 0, false⟩

theorem keys_all (w : World) : Calls Tryd.prog 21 #[] w fun e w' => e = .returned (.func (.func 39) #[] #[]) ∧ w' = w := by
  go_enter Tryd.func21, Tryd.ntmps21
  go_wp2
  go_ret
  exact ⟨rfl, rfl⟩
set_option maxRecDepth 100000 in
set_option maxHeartbeats 8000000 in
theorem keys_Look (code : Int) (w : World) :
    Calls Tryd.prog 8 #[.int .i64 code] w fun e w' => e = .returned (klook code).v ∧ Below w.heap.size w w' := by
  refine (callsIn_wide (n := 3)).1 ?_
  refine callsIn_of_wp_marks Tryd.func8 rfl trivial ?_
  simp only [Tryd.ntmps8, List.size_toArray, List.length_cons, List.length_nil, Nat.reduceAdd, Nat.reduceSub, Array.replicate_succ, Array.replicate_zero, List.push_toArray, List.append_toArray, List.nil_append, List.cons_append]
  gi_wp2_with (refine ⟨trivial, ?_⟩; gi_at_call 21; refine (callsIn_wide.2 (keys_all _)).mono ?_; rintro e w1 ⟨rfl, rfl⟩)
  obtain ⟨s, hs⟩ : ∃ s, w.heap.size = s := ⟨_, rfl⟩
  obtain ⟨W0, hW0⟩ : ∃ W0, ((w.alloc (Obj.cells #[Value.int .i64 code] 3)).alloc (Obj.cells #[Value.int IntKind.i64 0, Value.int IntKind.u8 0, Value.int IntKind.i64 0, Value.int IntKind.i64 0, Value.bool false] 32)) = W0 := ⟨_, rfl⟩
  rw [hW0]
  have hz0 : W0.heap.size = s + 2 := by rw [← hW0]; simp [hs]
  have hB0 : Below s w W0 := by rw [← hW0, ← hs]; exact below_alloc (below_alloc (Below.refl _ _) _) _
  have hb0 : Boxed W0 s 3 (.int .i64 code) := by rw [← hW0, ← hs]; exact (Boxed.new w _ _).alloc _
  have hb1 : W0.heap[s + 1]? = some (Obj.cells #[Value.int IntKind.i64 0, Value.int IntKind.u8 0, Value.int IntKind.i64 0, Value.int IntKind.i64 0, Value.bool false] 32) := by
    rw [← hW0]; have h := heap_alloc_new (w.alloc (Obj.cells #[Value.int .i64 code] 3)) (Obj.cells #[Value.int IntKind.i64 0, Value.int IntKind.u8 0, Value.int IntKind.i64 0, Value.int IntKind.i64 0, Value.bool false] 32); simpa [hs] using h
  clear hW0
  obtain ⟨X, hX⟩ : ∃ X, klist = X := ⟨_, rfl⟩
  have hKL : Hid (klook code = match X.find? (fun p => p.1 == code) with
      | some p => p.2
      | none => if (code < 32 ∨ (127 ≤ code ∧ code ≤ 159)) ∨ (57344 ≤ code ∧ code < 63744) ∨ utfPut code = [] then ⟨0, 0, 0, 0, false⟩ else ⟨1, 0, 0, 0, false⟩) := by rw [← hX]; rfl
  have hsq : ∀ o, SeqC Tryd.prog 39 #[] (X.map kArgs) (s + 2) (fun _ => False) ((W0.alloc (.deferred (some []))).alloc (.loop o)) := by
    intro o
    rw [← hX, ← kys_klist]
    exact keys_all1_seq _ _ (by simp; omega)
  rw [hs]
  clear hX
  refine wpIn_range (gf := 39) (lb := #[]) (ys := X.map kArgs) (n₀ := s + 2) (S₀ := fun _ => False) rfl (Go.Proofs.enters_of Tryd.func39 (by kernel_rfl) rfl) (by omega) (fun _ h => h.elim) hsq ?hps
    (fun i c A => Boxed A s 3 (.int .i64 code) ∧ A.heap[s + 1]? = some (Obj.cells #[Value.int IntKind.i64 0, Value.int IntKind.u8 0, Value.int IntKind.i64 0, Value.int IntKind.i64 0, Value.bool false] 32) ∧ Below s w A ∧ (X.take i).find? (fun p => p.1 == code) = none ∧ (∀ k, c k ↔ k = s + 1))
    (fun i d c A => d = .ret ∧ (∃ p, X.find? (fun p => p.1 == code) = some p ∧ A.heap[s + 1]? = some (Obj.cells #[Value.int IntKind.i64 p.2.kind, Value.int IntKind.u8 p.2.fin, Value.int IntKind.i64 p.2.num, Value.int IntKind.i64 p.2.char, Value.bool p.2.keys] 32)) ∧ Below s w A ∧ (∀ k, c k ↔ k = s + 1))
    (fun k => k = s + 1) ?hSc ?hIc ?hIxc ?hI ?hIx ?h0 ?hround ?hdone ?hstop
  case hps => intro y hy; obtain ⟨p, _, rfl⟩ := List.mem_map.1 hy; rfl
  case hSc => exact fun _ h => h.elim
  case hIc =>
    rintro i c A ⟨_, h1, _, _, h7⟩ k hk
    rw [(h7 k).1 hk]; exact (Array.getElem?_eq_some_iff.1 h1).1
  case hIxc =>
    rintro i d c A ⟨_, ⟨p, _, h1⟩, _, h7⟩ k hk
    rw [(h7 k).1 hk]; exact (Array.getElem?_eq_some_iff.1 h1).1
  case hI =>
    rintro i c A A' ⟨h0, h1, h2, h3, h7⟩ hag
    exact ⟨boxed_agree h0 (.inl (by omega)) hag, (hag.block _ (Array.getElem?_eq_some_iff.1 h1).1 (.inl (by omega))).trans h1, Agree.below h2 (by have := h2.size; omega) hag (fun k hk => .inl (by omega)), h3, h7⟩
  case hIx =>
    rintro i d c A A' ⟨h0, ⟨p, hp, h1⟩, h2, h7⟩ hag
    exact ⟨h0, ⟨p, hp, (hag.block _ (Array.getElem?_eq_some_iff.1 h1).1 (.inl (by omega))).trans h1⟩, Agree.below h2 (by have := h2.size; omega) hag (fun k hk => .inl (by omega)), h7⟩
  case h0 => exact ⟨hb0, hb1, hB0, rfl, fun _ => Iff.rfl⟩
  case hround =>
    intro l i y c A K hy hi hsz hk
    rw [List.getElem?_map] at hy
    obtain ⟨⟨cc, E⟩, hp, rfl⟩ := Option.map_eq_some_iff.1 hy
    have htake : X.take (i + 1) = X.take i ++ [(cc, E)] := by rw [List.take_add_one, hp]; rfl
    simp only [kArgs, KEnt.v]
    gi_wp2
    refine hk _ _ ((Agree.refl _ _).alloc _) ?_ ?_
    · obtain ⟨h0, h1, h2, h3, h7⟩ := hi
      exact ⟨h0.alloc _, (Below.heap_alloc _ _ _ (Array.getElem?_eq_some_iff.1 h1).1).trans h1, h2.trans ((Below.refl _ _).alloc (by have := h2.size; omega) _), h3, h7⟩
    intro A2 hs2 hag2 hi2
    clear hi
    have hq : A2.heap[A.heap.size]? = some (Obj.cells #[Value.int IntKind.i64 E.kind, Value.int IntKind.u8 E.fin, Value.int IntKind.i64 E.num, Value.int IntKind.i64 E.char, Value.bool E.keys] 32) :=
      (hag2.block A.heap.size (by simp) (by omega)).trans (heap_alloc_new _ _)
    obtain ⟨h0, h1, h2, h3, h7⟩ := hi2
    have c0 := h0.cell
    by_cases hcc : cc = code
    · have hld : (Instr.loadAt 32 (.pointer (some ⟨A.heap.size, 0, none⟩))).run Tryd.prog A2 = _ := run_load_row hq Tryd.underlying32 rfl (by kernel_rfl)
      have hst : (Instr.storeAt 32 (.pointer (some ⟨s + 1, 0, none⟩)) (.agg #[Value.int IntKind.i64 E.kind, Value.int IntKind.u8 E.fin, Value.int IntKind.i64 E.num, Value.int IntKind.i64 E.char, Value.bool E.keys])).run Tryd.prog A2 = _ := run_store_row h1 (by kernel_rfl) rfl (by simp [Value.oneCell'])
      gi_wp2_with (first | ((with_reducible apply wpListIn_load_run 32); exact rfl; exact rfl; exact hld) | ((with_reducible apply wpListIn_store_run 32); exact rfl; exact rfl; exact hst))
      have e1 : Agree (fun k => k ≠ s + 1) A2 (A2.setRow (s + 1) #[Value.int IntKind.i64 E.kind, Value.int IntKind.u8 E.fin, Value.int IntKind.i64 E.num, Value.int IntKind.i64 E.char, Value.bool E.keys]) := (Agree.refl _ _).setRow (fun h => h rfl) _
      refine ⟨fun k => k = s + 1, ⟨rfl, ⟨(cc, E), ?_, setRow_heap _ _ _ _ _ _ h1⟩, Agree.below h2 (by have := h2.size; omega) e1 (fun k hk => by omega), fun _ => Iff.rfl⟩, fun k hk => .inl ((h7 k).2 hk), e1.mono (fun k _ hk e => hk ((h7 k).2 e))⟩
      rw [← List.take_append_drop i X, List.find?_append, h3, List.drop_eq_getElem_cons (List.getElem?_eq_some_iff.1 hp).1, (List.getElem?_eq_some_iff.1 hp).2]
      simp [hcc]
    · gi_wp2
      refine ⟨c, ⟨h0, h1, h2, ?_, h7⟩, fun k hk => .inl hk, Agree.refl _ _⟩
      rw [htake, List.find?_append, h3]
      simp [hcc]
  case hdone =>
    rintro c1 W ⟨h0, h1, h2, h3, h7⟩ hK hcn
    rw [List.length_map, List.take_length] at h3
    rw [h3] at hKL
    have c0 := h0.cell
    have hst : ∀ a b c d e : Value, a.oneCell' = true → b.oneCell' = true → c.oneCell' = true → d.oneCell' = true → e.oneCell' = true → (Instr.storeAt 32 (.pointer (some ⟨s + 1, 0, none⟩)) (.agg #[a, b, c, d, e])).run Tryd.prog W = .ok () (W.setRow (s + 1) #[a, b, c, d, e]) := fun a b c d e ha hb hc hd he => run_store_row h1 (by kernel_rfl) rfl (by simp [ha, hb, hc, hd, he])
    rw [hz0] at hK hcn ⊢
    have fin : ∀ (tm : Array Value) (E : KEnt) (WF : World), klook code = E → Below s w WF → WF.heap[s + 1]? = some (Obj.cells #[Value.int IntKind.i64 E.kind, Value.int IntKind.u8 E.fin, Value.int IntKind.i64 E.num, Value.int IntKind.i64 E.char, Value.bool E.keys] 32) →
        WF.heap[(s + 2)]? = some (.deferred (some [])) → tm.getD 2 undef = .pointer (some ⟨s + 1, 0, none⟩) →
        bodyPostM Fence.wide 3 Tryd.prog Tryd.f8 (fun e w' => e = .returned (klook code).v ∧ Below w.heap.size w w') Exit.ret { tmps := tm, defers := [{ target := .collected (s + 2), args := #[] }] } WF := by
      intro tm E WF hE hBF hrow hKF htm
      refine ⟨by simp, .inl ⟨_, _, rfl, run_takeDeferred hKF, ?_⟩⟩
      have e4 : Agree (fun k => k ≠ (s + 2)) WF (WF.putObj (s + 2) (.deferred none)) := (Agree.refl _ _).putObj (fun h => h rfl) _
      have p1 := (e4.block (s + 1) (Array.getElem?_eq_some_iff.1 hrow).1 (by omega)).trans hrow
      have p4 := Agree.below hBF (by have := hBF.size; omega) e4 (fun k hk => by omega)
      refine ⟨_, results_cell_row Tryd.results8 _ _ (s + 1) _ _ (0, 0) _ htm p1 Tryd.underlying32 rfl (by kernel_rfl), ?_⟩
      rw [hE, hs]
      exact ⟨rfl, p4⟩
    have fin1 : ∀ (tm : Array Value) (E : KEnt) (WF : World), klook code = E → Below W.heap.size W WF → tm.getD 2 undef = .pointer (some ⟨s + 1, 0, none⟩) →
        bodyPostM Fence.wide 3 Tryd.prog Tryd.f8 (fun e w' => e = .returned (klook code).v ∧ Below w.heap.size w w') Exit.ret { tmps := tm, defers := [{ target := .collected (s + 2), args := #[] }] }
          (WF.setRow (s + 1) #[Value.int IntKind.i64 E.kind, Value.int IntKind.u8 E.fin, Value.int IntKind.i64 E.num, Value.int IntKind.i64 E.char, Value.bool E.keys]) := by
      intro tm E WF hE hBF htm
      have hl1 := (Array.getElem?_eq_some_iff.1 h1).1
      have hl2 := (Array.getElem?_eq_some_iff.1 hK).1
      have h1' := (hBF.block (s + 1) hl1).trans h1
      have hB2 : Below s w WF := h2.trans (hBF.mono (by omega))
      exact fin tm E _ hE (hB2.trans ⟨rfl, rfl, rfl, by simp, fun k hk => setRow_other _ _ _ _ (by omega)⟩) (setRow_heap _ _ _ _ _ _ h1') ((setRow_other _ _ _ _ (by omega)).trans ((hBF.block _ hl2).trans hK)) htm
    have hst2 : ∀ WF, Below W.heap.size W WF → ∀ a b c d e : Value, a.oneCell' = true → b.oneCell' = true → c.oneCell' = true → d.oneCell' = true → e.oneCell' = true → (Instr.storeAt 32 (.pointer (some ⟨s + 1, 0, none⟩)) (.agg #[a, b, c, d, e])).run Tryd.prog WF = .ok () (WF.setRow (s + 1) #[a, b, c, d, e]) :=
      fun WF hb a b c d e ha hb hc hd he => run_store_row ((Below.block ‹_› (s + 1) (Array.getElem?_eq_some_iff.1 h1).1).trans h1) (by kernel_rfl) rfl (by simp [ha, hb, hc, hd, he])
    have hz : (code < 32 ∨ (127 ≤ code ∧ code ≤ 159)) ∨ (57344 ≤ code ∧ code < 63744) → klook code = ⟨0, 0, 0, 0, false⟩ := fun h => by
      rw [hKL.out]; simp only []
      rw [if_pos (h.elim .inl (fun h => .inr (.inl h)))]
    have hB00 := Below.refl W.heap.size W
    have hp := Lib.hid (utf_Put code W)
    have hcase : code < 32 ∨ (32 ≤ code ∧ 127 ≤ code ∧ code ≤ 159) ∨ (159 < code ∧ 57344 ≤ code ∧ code < 63744) ∨ (32 ≤ code ∧ code < 127) ∨ (159 < code ∧ code < 57344) ∨ (63744 ≤ code) := by omega
    clear h0 h7 h3 hB0 hb0 hb1 hsq hz0
    rcases hcase with q1 | ⟨q1, q2, q3⟩ | ⟨q1, q2, q3⟩ | ⟨q1, q2⟩ | ⟨q1, q2⟩ | q1
    · have hE := hz (by omega)
      have hf := fun tm WF hb ht => fin1 tm _ WF hE hb ht
      clear hz h1 fin fin1
      gi_wp2
      refine ⟨trivial, ?_⟩
      gi_wp2_with (first | ((with_reducible apply wpListIn_store_run 32); exact rfl; exact rfl; exact hst2 _ (by assumption) _ _ _ _ _ rfl rfl rfl rfl rfl))
      simp only [Act.put]
      exact hf _ _ hB00 (by rfl)
    · have hE := hz (by omega)
      have hf := fun tm WF hb ht => fin1 tm _ WF hE hb ht
      clear hz h1 fin fin1
      gi_wp2
      refine ⟨trivial, ?_⟩
      gi_wp2_with (first | ((with_reducible apply wpListIn_store_run 32); exact rfl; exact rfl; exact hst2 _ (by assumption) _ _ _ _ _ rfl rfl rfl rfl rfl))
      simp only [Act.put]
      exact hf _ _ hB00 (by rfl)
    · have hE := hz (by omega)
      have hf := fun tm WF hb ht => fin1 tm _ WF hE hb ht
      clear hz h1 fin fin1
      gi_wp2
      refine ⟨trivial, ?_⟩
      gi_wp2_with (first | ((with_reducible apply wpListIn_store_run 32); exact rfl; exact rfl; exact hst2 _ (by assumption) _ _ _ _ _ rfl rfl rfl rfl rfl))
      simp only [Act.put]
      exact hf _ _ hB00 (by rfl)
    all_goals
      have hE1 : utfPut code = [] → klook code = ⟨0, 0, 0, 0, false⟩ := fun h => by
        rw [hKL.out]; simp only []
        rw [if_pos (.inr (.inr h))]
      have hE2 : ¬ utfPut code = [] → klook code = ⟨1, 0, 0, 0, false⟩ := fun h => by
        rw [hKL.out]; simp only []
        rw [if_neg (by rintro (h1 | h1 | h1) <;> first | exact h h1 | omega)]
      have hf1 := fun tm WF h hb ht => fin1 tm _ WF (hE1 h) hb ht
      have hf2 := fun tm WF h hb ht => fin1 tm _ WF (hE2 h) hb ht
      clear hz h1 fin fin1 hE1 hE2
      have HU := Lib.hid (show ∀ x, x = utfPut code → (x = [] ↔ x.length = 0) from fun x _ => List.length_eq_zero_iff.symm)
      generalize utfPut code = xs at hp hf1 hf2 HU
      by_cases hxs : xs.length = 0
      · have hxI : (xs.length : Int) = 0 := by omega
        gi_wp2_with (first | (refine ⟨trivial, ?_⟩; gi_at_call 22; refine (callsIn_wide.2 hp.out).mono ?_; rintro e w2 ⟨v, rfl, ⟨hvl, hvo⟩, hb2⟩; obtain ⟨va, vc, rfl⟩ := ownsRow_slice hvo) | ((with_reducible apply wpListIn_store_run 32); exact rfl; exact rfl; exact hst2 _ (by assumption) _ _ _ _ _ rfl rfl rfl rfl rfl))
        simp only [Act.put]
        exact hf1 _ _ ((HU.out _ rfl).2 hxs) hb2 (by rfl)
      · have hxI : ((xs.length : Int) == 0) = false := by rw [beq_eq_false_iff_ne]; omega
        have hq32 : decide (code < 32) = false := by simp; omega
        gi_wp2_with (first | (refine ⟨trivial, ?_⟩; gi_at_call 22; refine (callsIn_wide.2 hp.out).mono ?_; rintro e w2 ⟨v, rfl, ⟨hvl, hvo⟩, hb2⟩; obtain ⟨va, vc, rfl⟩ := ownsRow_slice hvo) | ((with_reducible apply wpListIn_store_run 32); exact rfl; exact rfl; exact hst2 _ (by assumption) _ _ _ _ _ rfl rfl rfl rfl rfl))
        simp only [Act.put]
        exact hf2 _ _ (fun h => hxs ((HU.out _ rfl).1 h)) hb2 (by rfl)
  case hstop =>
    rintro i d c1 W hi ⟨rfl, ⟨p, hp, h1⟩, h2, h7⟩ hK hcn
    gi_wp2
    refine ⟨by simp, .inl ⟨_, _, rfl, run_takeDeferred hK, ?_⟩⟩
    have e4 : Agree (fun k => k ≠ W0.heap.size) W (W.putObj W0.heap.size (.deferred none)) := (Agree.refl _ _).putObj (fun h => h rfl) _
    have p1 := (e4.block (s + 1) (Array.getElem?_eq_some_iff.1 h1).1 (by omega)).trans h1
    have p4 := Agree.below h2 (by have := h2.size; omega) e4 (fun k hk => by have := hB0.size; omega)
    refine ⟨_, results_cell_row Tryd.results8 _ _ (s + 1) _ _ (0, 0) _ rfl p1 Tryd.underlying32 rfl (by kernel_rfl), ?_⟩
    rw [hKL.out, hp, hs]
    exact ⟨rfl, p4⟩
end Go.Proofs.YthllkfbegdmdkaaDoor
