/- A range over a function, by ownership: what the loop's body owns (c), what the iterator keeps for itself. -/
import Derived.Test.YthllkfbegdmdkaaDoorBase
import Derived.RangeFuncNested
import Derived.RangeFuncBound
import Derived.RangeFuncCalls
import Derived.RangeFuncLeaves
import Derived.OwnWalkIn
import Derived.TacticsInMore
import Derived.LoopNIn
import Derived.LoopIn
namespace Go.Proofs.YthllkfbegdmdkaaDoor
open Go.RowKit
set_option linter.unusedSimpArgs false
set_option linter.unusedVariables false

/-- What lies in S lies as it lay. -/
structure Agree (S : Nat → Prop) (A A' : World) : Prop where
  os : A'.os = A.os
  tape : A'.tape = A.tape
  output : A'.output = A.output
  size : A.heap.size ≤ A'.heap.size
  block : ∀ k, k < A.heap.size → S k → A'.heap[k]? = A.heap[k]?
theorem Agree.refl (S : Nat → Prop) (A : World) : Agree S A A := ⟨rfl, rfl, rfl, Nat.le_refl _, fun _ _ _ => rfl⟩
theorem Agree.trans {S : Nat → Prop} {A B C : World} (h : Agree S A B) (k : Agree S B C) : Agree S A C :=
  ⟨k.os.trans h.os, k.tape.trans h.tape, k.output.trans h.output, Nat.le_trans h.size k.size, fun i hi hs => (k.block i (Nat.lt_of_lt_of_le hi h.size) hs).trans (h.block i hi hs)⟩
theorem Agree.mono {S T : Nat → Prop} {A B : World} (h : Agree S A B) (hT : ∀ k, k < A.heap.size → T k → S k) : Agree T A B := ⟨h.os, h.tape, h.output, h.size, fun k hk ht => h.block k hk (hT k hk ht)⟩
theorem Agree.of_below {S : Nat → Prop} {A B : World} (h : Below A.heap.size A B) : Agree S A B := ⟨h.os, h.tape, h.output, h.size, fun k hk _ => h.block k hk⟩
theorem Agree.below {n : Nat} {S : Nat → Prop} {w A B : World} (h : Below n w A) (hn : n ≤ A.heap.size) (k : Agree S A B) (hS : ∀ k, k < n → S k) : Below n w B :=
  h.trans ⟨k.os, k.tape, k.output, k.size, fun i hi => k.block i (by omega) (hS i hi)⟩
theorem Agree.alloc {S : Nat → Prop} {A B : World} (h : Agree S A B) (o : Obj) : Agree S A (B.alloc o) := h.trans (Agree.of_below ((Below.refl _ B).alloc (Nat.le_refl _) o))
theorem Agree.drew {S : Nat → Prop} {A B : World} (h : Agree S A B) : Agree S A B.drew := ⟨h.os, h.tape, h.output, h.size, h.block⟩
theorem Agree.drewN {S : Nat → Prop} {A B : World} (h : Agree S A B) (n : Nat) : Agree S A (B.drewN n) := ⟨h.os, h.tape, h.output, h.size, h.block⟩
theorem Agree.setCell {S : Nat → Prop} {A B : World} (h : Agree S A B) {p : Addr} (hp : ¬ S p.block ∨ A.heap.size ≤ p.block) (u : Value) : Agree S A (B.setCell p u) :=
  ⟨h.os, h.tape, h.output, by simpa [World.setCell] using h.size, fun k hk hs => (Below.heap_setCell B p u k (by rcases hp with hp | hp; · rintro rfl; exact hp hs
                                                                                                                 · omega)).trans (h.block k hk hs)⟩
theorem Agree.putObj {S : Nat → Prop} {A B : World} (h : Agree S A B) {r : Nat} (hp : ¬ S r) (o : Obj) : Agree S A (B.putObj r o) :=
  ⟨h.os, h.tape, h.output, by simpa using h.size, fun k hk hs => (World.putObj_heap_other (by rintro rfl; exact hp hs)).trans (h.block k hk hs)⟩
theorem Agree.grown {S : Nat → Prop} {A B C : World} (h : Agree S A B) {row : Option Nat} (hg : B.grownBy C row) (hr : ∀ k, row = some k → ¬ S k ∨ A.heap.size ≤ k) : Agree S A C :=
  ⟨hg.os.trans h.os, hg.tape.trans h.tape, hg.output.trans h.output, Nat.le_trans h.size hg.size, fun k hk hs => (hg.block k (Nat.lt_of_lt_of_le hk h.size) (fun e => by
    rcases hr k e.symm with h1 | h1
    · exact h1 hs
    · omega)).trans (h.block k hk hs)⟩
theorem Agree.cell {S : Nat → Prop} {A B : World} (h : Agree S A B) {p : Addr} (hs : S p.block) {v : Value} (hc : A.cell? p = some v) : B.cell? p = some v :=
  (World.cell?_of_block (h.block p.block (World.block_lt_of_cell? A _ hc) hs)).trans hc

/-- Where a round may lead. -/
def roundEnd (I : Nat → (Nat → Prop) → World → Prop) (Ix : Code → (Nat → Prop) → World → Prop) (i : Nat) (c : Nat → Prop) (A : World) : Exit → Act → World → Prop
  | .normal, _, A' => ∃ c', I (i + 1) c' A' ∧ (∀ k, c' k → c k ∨ A.heap.size ≤ k) ∧ Agree (fun k => ¬ c k) A A'
  | .ret, _, A' => ∃ c', Ix .ret c' A' ∧ (∀ k, c' k → c k ∨ A.heap.size ≤ k) ∧ Agree (fun k => ¬ c k) A A'
  | .exit id, _, A' => ∃ c', Ix (.exit id) c' A' ∧ (∀ k, c' k → c k ∨ A.heap.size ≤ k) ∧ Agree (fun k => ¬ c k) A A'
  | .goto t, _, A' => ∃ c', Ix (.goto t) c' A' ∧ (∀ k, c' k → c k ∨ A.heap.size ≤ k) ∧ Agree (fun k => ¬ c k) A A'
  | .panic _, _, _ => False
  | .outgrown, _, _ => False

/-- An iterator that hands on just these values, in turn, as long as it is let; it leaves alone what lay below n₀, and what the body owns. -/
def SeqC (P : Program) (g : Nat) (lb : Array Value) (ys : List (Array Value)) (n₀ : Nat) (S₀ : Nat → Prop) (W : World) : Prop :=
  ∀ (l : Nat) (J Jx : Nat → (Nat → Prop) → World → Prop) (c₀ : Nat → Prop),
    (∀ k, S₀ k → ¬ c₀ k) →
    (∀ i c A, J i c A → ∀ k, c k → k < A.heap.size) → (∀ i c A, Jx i c A → ∀ k, c k → k < A.heap.size) →
    (∀ i c A A', J i c A → Agree (fun k => k < n₀ ∨ c k) A A' → J i c A') → (∀ i c A A', Jx i c A → Agree (fun k => k < n₀ ∨ c k) A A' → Jx i c A') →
    (∀ i y c A, ys[i]? = some y → J i c A → YieldAt Fence.wide 1 P l y A fun e A' =>
      (e = .returned (.bool true) ∧ ∃ c', J (i + 1) c' A' ∧ (∀ k, c' k → c k ∨ A.heap.size ≤ k) ∧ Agree (fun k => ¬ c k) A A') ∨
      (e = .returned (.bool false) ∧ ∃ c', Jx i c' A' ∧ (∀ k, c' k → c k ∨ A.heap.size ≤ k) ∧ Agree (fun k => ¬ c k) A A')) →
    J 0 c₀ W →
    CallsIn Fence.wide 2 P g (#[.func (.yield l) #[] #[]] ++ lb) W fun e W' => (∃ v, e = .returned v) ∧ ((∃ c, J ys.length c W') ∨ (∃ i c, i < ys.length ∧ Jx i c W'))

variable {P : Program}
theorem wpIn_range {g : Operand} {ps : Array Tmp} {assign body : Code} {Q : Exit → Act → World → Prop} {a : Act} {w : World}
    {gf : Nat} {lb : Array Value} (hg : a.eval g = .func (.func gf) #[] lb) (eg : ∀ args w, (callFunc gf args).run P w = .ok (.enter gf args) w)
    {ys : List (Array Value)} {n₀ : Nat} {S₀ : Nat → Prop} (hn : n₀ ≤ w.heap.size) (hS : ∀ k, S₀ k → k < w.heap.size)
    (hseq : ∀ o, SeqC P gf lb ys n₀ S₀ ((w.alloc (.deferred (some []))).alloc (.loop o)))
    (hps : ∀ y, y ∈ ys → y.size = ps.size)
    (I : Nat → (Nat → Prop) → World → Prop) (Ix : Nat → Code → (Nat → Prop) → World → Prop) (c₀ : Nat → Prop) (hSc : ∀ k, S₀ k → ¬ c₀ k)
    (hIc : ∀ i c A, I i c A → ∀ k, c k → k < A.heap.size) (hIxc : ∀ i d c A, Ix i d c A → ∀ k, c k → k < A.heap.size)
    (hI : ∀ i c A A', I i c A → Agree (fun k => k < n₀ ∨ c k) A A' → I i c A') (hIx : ∀ i d c A A', Ix i d c A → Agree (fun k => k < n₀ ∨ c k) A A' → Ix i d c A')
    (h0 : I 0 c₀ w)
    (hround : ∀ (l : Nat) i y c A (K : Act → World → Prop), ys[i]? = some y → I i c A → w.heap.size + 2 ≤ A.heap.size →
      (∀ a₁ A₁, Agree (fun k => ¬ c k) A A₁ → I i c A₁ → (∀ A₂, A₂.heap.size = A₁.heap.size → Agree (fun k => k ≠ w.heap.size + 1) A₁ A₂ → I i c A₂ → body.wpIn (Fence.wide.inRound l) 1 P (roundEnd I (Ix i) i c A₂) a₁ A₂) → K a₁ A₁) →
      assign.wpIn (Fence.wide.inRound l) 1 P (Exit.then K (fun _ _ _ => False)) { tmps := (ps.zip y).foldl (fun t (p, v) => t.setIfInBounds p v) a.tmps, defers := [] } A)
    (hdone : ∀ c W, I ys.length c W → W.heap[w.heap.size]? = some (.deferred (some [])) → ¬ c w.heap.size → Q .normal { a with defers := { target := .collected w.heap.size, args := #[] } :: a.defers } W)
    (hstop : ∀ i d c W, i < ys.length → Ix i d c W → W.heap[w.heap.size]? = some (.deferred (some [])) → ¬ c w.heap.size → d.wpIn Fence.wide 3 P Q { a with defers := { target := .collected w.heap.size, args := #[] } :: a.defers } W) :
    (Code.rangeFunc g ps assign body).wpIn Fence.wide 3 P Q a w := by
  refine wpIn_rangeFunc ?_
  intro fn hfn
  rw [show Fence.wide.round = none from rfl]
  obtain ⟨rec, hrec⟩ : ∃ rec : LoopState → Option Code → Loop, rec = fun st pe => { state := st, pending := pe, fn, tmps := a.tmps, params := ps, assign, body, defers := w.heap.size } := ⟨_, rfl⟩
  obtain ⟨W1, hW1⟩ : ∃ W1, (w.alloc (.deferred (some []))).alloc (.loop (rec .ready none)) = W1 := ⟨_, rfl⟩
  have hL1 : W1.heap[w.heap.size + 1]? = some (.loop (rec .ready none)) := by
    rw [← hW1]; have := World.alloc_heap_new (w.alloc (.deferred (some []))) (.loop (rec .ready none)); rwa [World.size_alloc] at this
  have hK1 : W1.heap[w.heap.size]? = some (.deferred (some [])) := by
    rw [← hW1]; exact (Below.heap_alloc _ _ _ (by simp)).trans (World.alloc_heap_new w _)
  have hs1 : W1.heap.size = w.heap.size + 2 := by rw [← hW1]; simp
  have hI1 : I 0 c₀ W1 := by rw [← hW1]; exact hI _ _ _ _ h0 (((Agree.refl _ _).alloc _).alloc _)
  have hq := hseq (rec .ready none)
  rw [hW1] at hq
  refine ⟨w.heap.size + 1, [{ target := .collected w.heap.size, args := #[] }], W1, { target := .fn (.func gf) lb, args := #[.func (.yield (w.heap.size + 1)) #[] #[]] }, W1, gf,
    #[.func (.yield (w.heap.size + 1)) #[] #[]] ++ lb, W1, ?_, ?_, ?_, ?_, fun _ => by omega, ?_⟩
  · rw [← hW1, hrec]; exact run_enterLoop_outer _ _ _ _ _
  · simp only [resolve, hg]
    simp [go_sem]
  · intro f' _; exact trivial
  · simp [invoke, go_sem, eg]
  · have hadd : ∀ {c : Nat → Prop} {A A' : World}, Agree (fun k => k < n₀ ∨ c k ∨ k = w.heap.size + 1 ∨ k = w.heap.size) A A' → Agree (fun k => k < n₀ ∨ c k) A A' :=
      fun h => h.mono (fun k _ hk => by rcases hk with hk | hk; · exact .inl hk
                                        · exact .inr (.inl hk))
    refine (hq (w.heap.size + 1)
      (fun i c A => ∃ c₁, I i c₁ A ∧ (∀ k, c k ↔ c₁ k ∨ k = w.heap.size + 1 ∨ k = w.heap.size) ∧ ¬ c₁ (w.heap.size + 1) ∧ ¬ c₁ w.heap.size ∧ w.heap.size + 2 ≤ A.heap.size ∧ A.heap[w.heap.size + 1]? = some (.loop (rec .ready none)) ∧ A.heap[w.heap.size]? = some (.deferred (some [])))
      (fun i c A => ∃ c₁ d, Ix i d c₁ A ∧ (∀ k, c k ↔ c₁ k ∨ k = w.heap.size + 1 ∨ k = w.heap.size) ∧ ¬ c₁ (w.heap.size + 1) ∧ ¬ c₁ w.heap.size ∧ w.heap.size + 2 ≤ A.heap.size ∧ A.heap[w.heap.size + 1]? = some (.loop (rec .done (some d))) ∧ A.heap[w.heap.size]? = some (.deferred (some [])))
      (fun k => c₀ k ∨ k = w.heap.size + 1 ∨ k = w.heap.size) ?_ ?_ ?_ ?_ ?_ ?_ ?_).mono ?_
    · rintro k hk (h1 | rfl | rfl)
      · exact hSc k hk h1
      · have := hS _ hk; omega
      · have := hS _ hk; omega
    · rintro i c A ⟨c₁, hi, hc, _, _, hsz, _⟩ k hk
      rcases (hc k).1 hk with h1 | rfl | rfl
      · exact hIc _ _ _ hi k h1
      · omega
      · omega
    · rintro i c A ⟨c₁, d, hi, hc, _, _, hsz, _⟩ k hk
      rcases (hc k).1 hk with h1 | rfl | rfl
      · exact hIxc _ _ _ _ hi k h1
      · omega
      · omega
    · rintro i c A A' ⟨c₁, hi, hc, h1, h2, hsz, hl, hk⟩ hag
      have e : (fun k => k < n₀ ∨ c k) = (fun k => k < n₀ ∨ c₁ k ∨ k = w.heap.size + 1 ∨ k = w.heap.size) := by funext k; rw [hc k]
      rw [e] at hag
      exact ⟨c₁, hI _ _ _ _ hi (hadd hag), hc, h1, h2, Nat.le_trans hsz hag.size, (hag.block _ (by omega) (.inr (.inr (.inl rfl)))).trans hl, (hag.block _ (by omega) (.inr (.inr (.inr rfl)))).trans hk⟩
    · rintro i c A A' ⟨c₁, d, hi, hc, h1, h2, hsz, hl, hk⟩ hag
      have e : (fun k => k < n₀ ∨ c k) = (fun k => k < n₀ ∨ c₁ k ∨ k = w.heap.size + 1 ∨ k = w.heap.size) := by funext k; rw [hc k]
      rw [e] at hag
      exact ⟨c₁, d, hIx _ _ _ _ _ hi (hadd hag), hc, h1, h2, Nat.le_trans hsz hag.size, (hag.block _ (by omega) (.inr (.inr (.inl rfl)))).trans hl, (hag.block _ (by omega) (.inr (.inr (.inr rfl)))).trans hk⟩
    · -- one round
      rintro i y c A hy ⟨c₁, hi, hc, hc1, hc2, hsz, hl, hk⟩
      have hyy := run_yield (P := P) (args := y) hl (by rw [hrec]; exact hps y (List.mem_of_getElem? hy))
      rw [hrec] at hyy
      refine ⟨fn, _, assign, body, hyy, roundIn_of_wpIn hfn (hround _ i y c₁ A _ hy hi hsz ?_)⟩
      intro a₁ A₁ hag hi1 hbody
      have hl1 : A₁.heap[w.heap.size + 1]? = some (.loop (rec .ready none)) := (hag.block _ (by omega) hc1).trans hl
      have hk1 : A₁.heap[w.heap.size]? = some (.deferred (some [])) := (hag.block _ (by omega) hc2).trans hk
      have hsz1 := hag.size
      refine ⟨_, run_beginRound hl1 (by rw [hrec]), ?_⟩
      have hl2 : (A₁.putObj (w.heap.size + 1) (.loop { rec .ready none with state := .busy })).heap[w.heap.size + 1]? = some (.loop { rec .ready none with state := .busy }) := World.putObj_heap_same (by omega)
      have hk2 : (A₁.putObj (w.heap.size + 1) (.loop { rec .ready none with state := .busy })).heap[w.heap.size]? = some (.deferred (some [])) := (World.putObj_heap_other (by omega)).trans hk1
      obtain ⟨A₂, hA2⟩ : ∃ A₂, A₁.putObj (w.heap.size + 1) (.loop { rec .ready none with state := .busy }) = A₂ := ⟨_, rfl⟩
      have hag2 : Agree (fun k => k ≠ w.heap.size + 1) A₁ A₂ := by rw [← hA2]; exact (Agree.refl _ _).putObj (by simp) _
      have hsz2 : A₂.heap.size = A₁.heap.size := by rw [← hA2]; simp
      rw [hA2] at hl2 hk2 ⊢
      have hi2 : I i c₁ A₂ → body.wpIn (Fence.wide.inRound (w.heap.size + 1)) 1 P (roundEnd I (Ix i) i c₁ A₂) a₁ A₂ := hbody A₂ hsz2 hag2
      have hag3 : Agree (fun k => ¬ c k) A A₂ := (hag.mono (fun k _ hk h => hk ((hc k).2 (.inl h)))).trans (hag2.mono (fun k _ hk e => hk ((hc k).2 (.inr (.inl e)))))
      refine wpIn_mono (hi2 (hI _ _ _ _ hi1 (hag2.mono (fun k _ hk e => by
        subst e
        rcases hk with hk | hk
        · omega
        · exact hc1 hk)))) ?_
      have fin : ∀ (jump : Option Code) (W3 : World) (c' : Nat → Prop), (∀ k, c' k → c₁ k ∨ A₂.heap.size ≤ k) → Agree (fun k => ¬ c₁ k) A₂ W3 →
          (Instr.endRound (w.heap.size + 1) jump).run P W3 = .ok (.bool jump.isNone) (W3.putObj (w.heap.size + 1) (.loop (rec (if jump.isNone then .ready else .done) jump))) ∧
          (W3.putObj (w.heap.size + 1) (.loop (rec (if jump.isNone then .ready else .done) jump))).heap[w.heap.size + 1]? = some (.loop (rec (if jump.isNone then .ready else .done) jump)) ∧
          (W3.putObj (w.heap.size + 1) (.loop (rec (if jump.isNone then .ready else .done) jump))).heap[w.heap.size]? = some (.deferred (some [])) ∧
          ¬ c' (w.heap.size + 1) ∧ ¬ c' w.heap.size ∧ Agree (fun k => k < n₀ ∨ c' k) W3 (W3.putObj (w.heap.size + 1) (.loop (rec (if jump.isNone then .ready else .done) jump))) ∧
          Agree (fun k => ¬ c k) A (W3.putObj (w.heap.size + 1) (.loop (rec (if jump.isNone then .ready else .done) jump))) ∧
          (∀ k, (c' k ∨ k = w.heap.size + 1 ∨ k = w.heap.size) → c k ∨ A.heap.size ≤ k) ∧ w.heap.size + 2 ≤ (W3.putObj (w.heap.size + 1) (.loop (rec (if jump.isNone then .ready else .done) jump))).heap.size := by
        intro jump W3 c' hc' hag4
        have hl3 : W3.heap[w.heap.size + 1]? = some (.loop { rec .ready none with state := .busy }) := (hag4.block _ (by omega) hc1).trans hl2
        have hk3 : W3.heap[w.heap.size]? = some (.deferred (some [])) := (hag4.block _ (by omega) hc2).trans hk2
        have hsz3 := hag4.size
        have hr := run_endRound (P := P) jump hl3
        have n1 : ¬ c' (w.heap.size + 1) := fun h => by rcases hc' _ h with h | h; · exact hc1 h
                                                        · omega
        have n2 : ¬ c' w.heap.size := fun h => by rcases hc' _ h with h | h; · exact hc2 h
                                                  · omega
        have hnot : ¬ (fun k => k < n₀ ∨ c' k) (w.heap.size + 1) := fun h => h.elim (fun h => by omega) n1
        refine ⟨by rw [hrec] at hr ⊢; exact hr, World.putObj_heap_same (by omega), (World.putObj_heap_other (by omega)).trans hk3, n1, n2, (Agree.refl _ _).putObj (r := w.heap.size + 1) hnot _,
          (hag3.trans (hag4.mono (fun k _ hk h => hk ((hc k).2 (.inl h))))).putObj (by exact fun h => h ((hc _).2 (.inr (.inl rfl)))) _, ?_, by simp; omega⟩
        rintro k (h | rfl | rfl)
        · rcases hc' k h with h | h
          · exact .inl ((hc k).2 (.inl h))
          · exact .inr (by omega)
        · exact .inl ((hc _).2 (.inr (.inl rfl)))
        · exact .inl ((hc _).2 (.inr (.inr rfl)))
      rintro e a3 W3 hp
      cases e with
      | normal =>
        obtain ⟨c', hi3, hc', hag4⟩ := hp
        obtain ⟨hr, h1, h2, h3, h4, h5, h6, h7, h8⟩ := fin none W3 c' hc' hag4
        exact ⟨_, _, hr, .inl ⟨rfl, fun k => c' k ∨ k = w.heap.size + 1 ∨ k = w.heap.size, ⟨c', hI _ _ _ _ hi3 h5, fun _ => Iff.rfl, h3, h4, h8, h1, h2⟩, h7, h6⟩⟩
      | ret =>
        obtain ⟨c', hi3, hc', hag4⟩ := hp
        obtain ⟨hr, h1, h2, h3, h4, h5, h6, h7, h8⟩ := fin (some .ret) W3 c' hc' hag4
        exact ⟨_, _, hr, .inr ⟨rfl, fun k => c' k ∨ k = w.heap.size + 1 ∨ k = w.heap.size, ⟨c', .ret, hIx _ _ _ _ _ hi3 h5, fun _ => Iff.rfl, h3, h4, h8, h1, h2⟩, h7, h6⟩⟩
      | exit id =>
        obtain ⟨c', hi3, hc', hag4⟩ := hp
        obtain ⟨hr, h1, h2, h3, h4, h5, h6, h7, h8⟩ := fin (some (.exit id)) W3 c' hc' hag4
        exact ⟨_, _, hr, .inr ⟨rfl, fun k => c' k ∨ k = w.heap.size + 1 ∨ k = w.heap.size, ⟨c', .exit id, hIx _ _ _ _ _ hi3 h5, fun _ => Iff.rfl, h3, h4, h8, h1, h2⟩, h7, h6⟩⟩
      | goto t =>
        obtain ⟨c', hi3, hc', hag4⟩ := hp
        obtain ⟨hr, h1, h2, h3, h4, h5, h6, h7, h8⟩ := fin (some (.goto t)) W3 c' hc' hag4
        exact ⟨_, _, hr, .inr ⟨rfl, fun k => c' k ∨ k = w.heap.size + 1 ∨ k = w.heap.size, ⟨c', .goto t, hIx _ _ _ _ _ hi3 h5, fun _ => Iff.rfl, h3, h4, h8, h1, h2⟩, h7, h6⟩⟩
      | panic ch => exact hp.elim
      | outgrown => exact hp.elim
    · exact ⟨c₀, hI1, fun _ => Iff.rfl, fun h => by have := hIc _ _ _ h0 _ h; omega, fun h => by have := hIc _ _ _ h0 _ h; omega, by omega, hL1, hK1⟩
    · rintro e W2 ⟨⟨v, rfl⟩, (⟨c, c₁, hi, hc, hc1, hc2, hsz, hl, hk⟩ | ⟨i, c, hlt, c₁, d, hi, hc, hc1, hc2, hsz, hl, hk⟩)⟩
      · refine ⟨none, _, by have := run_endLoop (P := P) hl (by rw [hrec]; simp); rw [hrec] at this; exact this, hdone c₁ _ (hI _ _ _ _ hi ?_) ((World.putObj_heap_other (by omega)).trans hk) hc2⟩
        exact (Agree.refl _ _).putObj (by rintro (h | h); · omega
                                          · exact hc1 h) _
      · refine ⟨some d, _, by have := run_endLoop (P := P) hl (by rw [hrec]; simp); rw [hrec] at this; exact this, hstop i d c₁ _ hlt (hIx _ _ _ _ _ hi ?_) ((World.putObj_heap_other (by omega)).trans hk) hc2⟩
        exact (Agree.refl _ _).putObj (by rintro (h | h); · omega
                                          · exact hc1 h) _
end Go.Proofs.YthllkfbegdmdkaaDoor
