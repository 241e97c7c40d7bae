/- A list in a box that a loop's body appends to. -/
import Derived.Test.YthllkfbegdmdkaaDoorRange
import Derived.Shelf.Abstract
import Derived.Deep.AppendLies
import Derived.RangeFuncBox
namespace Go.Proofs.YthllkfbegdmdkaaDoor
open Go.RowKit
set_option linter.unusedSimpArgs false
set_option linter.unusedVariables false

theorem wpListIn_append_lies {F : Fence} {n' : Nat} {P : Program} (w : World) {ops : Array Oper} {rest : List Oper} {o : Oper} {a : Act} {Q : Exit → Act → World → Prop} (hgd : o.guard = none) (s x : Operand) (t : TypeId)
    (hop : o.op = .call { callee := .builtin .append, args := #[s, x], argTypes := #[t, t] })
    (base : Nat) (e : TypeId) (i : TypeInfo) (z : Value) (size bytes : Nat) (ht : P.underlying t = some (.slice e)) (hi : P.info? e = some i) (hz : i.zero = some z)
    (hsize : i.size = size) (hby : i.bytes = bytes) (hzs : z.cells.size = size) (hsz : 0 < size)
    (v : Value) (n : Nat) (xs : List Value) (hs : a.eval s = v) (hown : w.ownsRow base e size v n xs)
    (ad : Addr) (m c : Nat) (news : List Value) (hx : a.eval x = .slice (some ad) m c) (hl : news.length = m * size) (hnews : ∀ j u, news[j]? = some u → w.cell? (ad.add j) = some u) (h1 : ∀ u ∈ news, u.oneCell' = true)
    (hm : 0 < m) (h63 : n + m ≤ maxLen) (hbytes : (n + m) * bytes ≤ 140737488355328) (hbase : base ≤ w.heap.size) (H : Nat) (hH : w.heap.size = H)
    (h : ∀ g cap w', w'.ownsRow base e size (.slice (some ⟨g, 0, none⟩) (n + m) cap) (n + m) (xs ++ news) → w.grownBy w' v.ownBlock → (v.ownBlock = some g ∨ g = H) → g < w'.heap.size → wpListIn F n' P ops Q rest (a.put o.dst (.slice (some ⟨g, 0, none⟩) (n + m) cap)) w') : wpListIn F n' P ops Q (o :: rest) a w := by
  refine wpListIn_plain hgd fun K hK' => ?_
  obtain ⟨g, cap, w', hrun, r1, r2, r3, r4⟩ := run_append_lies (P := P) w t o.type base e i z size bytes ht hi hz hsize hby hzs hsz v n xs hown ad m c news hl hnews h1 hm h63 hbytes hbase H hH
  unfold Oper.wpIn
  refine ⟨?_, ?_⟩
  · simp [Oper.about, hop, resolve, Target.leads, Sem.run_pure]
  · rw [Oper.semAt_plain F _ _ (by rw [hop]; intro c hc'; cases hc')]
    simp [execOp, hop, resolve, invoke, builtin, hs, hx, hrun, Result.andThen]
    exact hK' _ _ (h g cap w' r1 r2 r3 r4)

theorem boxed_agree {S : Nat → Prop} {A B : World} {b : Nat} {t : TypeId} {v : Value} (h : Boxed A b t v) (hs : S b) (hag : Agree S A B) : Boxed B b t v := (hag.block b h.lt hs).trans h
theorem ownsRow_agree {S : Nat → Prop} {A B : World} {base : Nat} {e : TypeId} {size : Nat} {v : Value} {n : Nat} {xs : List Value} (h : A.ownsRow base e size v n xs) (hs : ∀ k, v.ownBlock = some k → S k) (hag : Agree S A B) : B.ownsRow base e size v n xs := by
  obtain ⟨hl, h⟩ := h
  refine ⟨hl, h.imp id ?_⟩
  rintro ⟨g, cap, cur, rfl, hb, hg, hr⟩
  exact ⟨g, cap, cur, rfl, hb, (hag.block g (Array.getElem?_eq_some_iff.1 hg).1 (hs g rfl)).trans hg, hr⟩

/-- What an append into a boxed list leaves. -/
theorem box_appended {W w1 : World} {n₀ B : Nat} {t e : TypeId} {size : Nat} {v : Value} {k m g cap : Nat} {xs ys : List Value} {tmp : Obj}
    (hv : Boxed W B t v) (hte : t ≠ e) (hrow : W.ownsRow n₀ e size v k xs) (hn₀ : n₀ ≤ W.heap.size)
    (hown' : w1.ownsRow n₀ e size (.slice (some ⟨g, 0, none⟩) m cap) m ys) (hgrow : (W.alloc tmp).grownBy w1 v.ownBlock) :
    Boxed w1 B t v ∧ Boxed (w1.setCell ⟨B, 0, none⟩ (.slice (some ⟨g, 0, none⟩) m cap)) B t (.slice (some ⟨g, 0, none⟩) m cap) ∧ (w1.setCell ⟨B, 0, none⟩ (.slice (some ⟨g, 0, none⟩) m cap)).ownsRow n₀ e size (.slice (some ⟨g, 0, none⟩) m cap) m ys ∧
      ∀ S : Nat → Prop, ¬ S B → (∀ k, v.ownBlock = some k → ¬ S k) → Agree S W (w1.setCell ⟨B, 0, none⟩ (.slice (some ⟨g, 0, none⟩) m cap)) := by
  have hv1 : Boxed w1 B t v := (hv.alloc tmp).kept hgrow (hv.not_row hte hrow)
  refine ⟨hv1, hv1.set _, hown'.kept (grownBy_setCell' w1 B _) (.inr (hv1.not_row hte hown').symm), fun S hB hS => ?_⟩
  exact (((Agree.refl S W).alloc tmp).grown hgrow (fun k hk => .inl (hS k hk.symm.symm))).setCell (.inl hB) _

theorem Agree.setRow {S : Nat → Prop} {A B : World} (h : Agree S A B) {g : Nat} (hp : ¬ S g) (cs : Array Value) : Agree S A (B.setRow g cs) :=
  ⟨h.os, h.tape, h.output, by simpa using h.size, fun k hk hs => (setRow_other B g k cs (by rintro rfl; exact hp hs)).trans (h.block k hk hs)⟩

/-! ### A struct that fills a block: stored, loaded -/
theorem run_store_row {P : Program} {t e : TypeId} {W : World} {g : Nat} {cs vs : Array Value} (hg : W.heap[g]? = some (.cells cs e (0, 0))) (hi : (P.info? t).map (·.size) = some vs.size) (hl : vs.size = cs.size) (h1 : ∀ v ∈ vs.toList, v.oneCell' = true) :
    (Instr.storeAt t (.pointer (some ⟨g, 0, none⟩)) (.agg vs)).run P W = .ok () (W.setRow g vs) := by
  obtain ⟨i, hq, hs⟩ := Option.map_eq_some_iff.1 hi
  have hst := run_storeCells_at P g 0 e vs.toList 0 cs W hg (by simp [hl]) h1
  have e1 : (cs.toList.take (0 + 0) ++ vs.toList ++ cs.toList.drop (0 + 0 + vs.toList.length)).toArray = vs := by
    rw [List.drop_of_length_le (by simp [hl])]
    simp
  rw [e1] at hst
  simp [Instr.storeAt, Instr.sureAddr, storeVar, Sem.run_bind, sizeOf, typeInfo, hq, hs, Value.cells, hst]
theorem run_load_row {P : Program} {t e : TypeId} {W : World} {g : Nat} {cs : Array Value} {fr : Nat × Nat} {d : TypeDesc} (hg : W.heap[g]? = some (.cells cs e fr)) (hu : P.underlying t = some d) (hd : (match d with | .struct _ | .array _ _ => true | _ => false) = true) (hi : (P.info? t).map (·.size) = some cs.size) :
    (Instr.loadAt t (.pointer (some ⟨g, 0, none⟩))).run P W = .ok (.agg cs) W := by
  simp [Instr.loadAt, Instr.sureAddr, Sem.run_bind, run_loadVar_row W g e t cs fr d hg hu hd hi]
section
variable {P : Program} {ops : Array Oper} {rest : List Oper} {o : Oper} {a : Act} {w : World} {Q : Exit → Act → World → Prop} {F : Fence} {n : Nat}
/-- A load, a store, whose run is a known fact. -/
theorem wpList_load_run (t : TypeId) (hgd : o.guard = none) {p : Operand} (ho : o.op = .load t p) {v : Value} (hrun : (Instr.loadAt t (a.eval p)).run P w = .ok v w)
    (h : wpList P ops Q rest (a.put o.dst v) w) : wpList P ops Q (o :: rest) a w := by
  refine wpList_plain hgd fun K hK => ?_
  unfold Oper.wp
  simp only [execOp, ho, Sem.run_bind, hrun, Result.andThen_ok, Sem.run_pure, Oper.upon_value]
  exact hK _ _ h
theorem wpList_store_run (t : TypeId) (hgd : o.guard = none) {p x : Operand} (ho : o.op = .store t p x) {w' : World} (hrun : (Instr.storeAt t (a.eval p) (a.eval x)).run P w = .ok () w')
    (h : wpList P ops Q rest (a.put o.dst undef) w') : wpList P ops Q (o :: rest) a w := by
  refine wpList_plain hgd fun K hK => ?_
  unfold Oper.wp
  simp only [execOp, ho, Sem.run_bind, hrun, Result.andThen_ok, Sem.run_pure, Oper.upon_skip]
  exact hK _ _ h
theorem wpListIn_load_run (t : TypeId) (hgd : o.guard = none) {p : Operand} (ho : o.op = .load t p) {v : Value} (hrun : (Instr.loadAt t (a.eval p)).run P w = .ok v w)
    (h : wpListIn F n P ops Q rest (a.put o.dst v) w) : wpListIn F n P ops Q (o :: rest) a w := by
  refine wpListIn_plain hgd fun K hK => ?_
  unfold Oper.wpIn
  refine ⟨?_, ?_⟩
  · simp [Oper.about, ho]
  · rw [Oper.semAt_plain F _ _ (by rw [ho]; intro c hc'; cases hc')]
    simp only [execOp, ho, Sem.run_bind, hrun, Result.andThen_ok, Sem.run_pure, Oper.uponIn_value]
    exact hK _ _ h
theorem wpListIn_store_run (t : TypeId) (hgd : o.guard = none) {p x : Operand} (ho : o.op = .store t p x) {w' : World} (hrun : (Instr.storeAt t (a.eval p) (a.eval x)).run P w = .ok () w')
    (h : wpListIn F n P ops Q rest (a.put o.dst undef) w') : wpListIn F n P ops Q (o :: rest) a w := by
  refine wpListIn_plain hgd fun K hK => ?_
  unfold Oper.wpIn
  refine ⟨?_, ?_⟩
  · simp [Oper.about, ho]
  · rw [Oper.semAt_plain F _ _ (by rw [ho]; intro c hc'; cases hc')]
    simp only [execOp, ho, Sem.run_bind, hrun, Result.andThen_ok, Sem.run_pure, Oper.uponIn_skip]
    exact hK _ _ h
end
theorem ownsRow_slice {w : World} {base : Nat} {e : TypeId} {size : Nat} {v : Value} {n : Nat} {xs : List Value} (h : w.ownsRow base e size v n xs) : ∃ a c, v = .slice a n c := by
  rcases h.2 with ⟨rfl, rfl⟩ | ⟨g, cap, cur, rfl, _⟩
  · exact ⟨_, _, rfl⟩
  · exact ⟨_, _, rfl⟩
end Go.Proofs.YthllkfbegdmdkaaDoor
