/- Words that the walks of this seat share: how slices are read, what a world that has grown keeps. -/
import Derived.Test.YthllkfbegdmdkaaDoorProg
import Derived.WalkKit
import Derived.WalkSpells
import Derived.WalkLawsBesides
import Derived.Handy
import Derived.Lib.Hide
import Derived.Deep.WholeRow
namespace Go.Proofs.YthllkfbegdmdkaaDoor
open Go.RowKit
set_option linter.unusedSimpArgs false
set_option linter.unusedVariables false

/-- A slice of whole numbers that can be read: nil and empty alike. -/
def Rd (k : IntKind) (w : World) (v : Value) (xs : List Int) : Prop :=
  ∃ a c, v = .slice a xs.length c ∧ xs.length ≤ c ∧ xs.length ≤ 140737488355328 ∧
    (xs = [] ∨ ∃ b o, a = some ⟨b, o, none⟩ ∧ b < w.heap.size ∧ ∀ j, j < xs.length → w.cell? ⟨b, o + j, none⟩ = some (.int k (xs.getD j 0)))
theorem Rd.below {k : IntKind} {w w' : World} {v : Value} {xs : List Int} (h : Rd k w v xs) (hb : Below w.heap.size w w') : Rd k w' v xs := by
  obtain ⟨a, c, e, h1, h2, h3⟩ := h
  refine ⟨a, c, e, h1, h2, ?_⟩
  rcases h3 with h3 | ⟨b, o, ha, hlt, hc⟩
  · exact .inl h3
  · exact .inr ⟨b, o, ha, Nat.lt_of_lt_of_le hlt hb.size, fun j hj => (hb.cell (p := ⟨b, o + j, none⟩) hlt).trans (hc j hj)⟩
theorem Rd.take {k : IntKind} {w : World} {b o n c : Nat} {xs : List Int} (h : Rd k w (.slice (some ⟨b, o, none⟩) n c) xs) (m : Nat) (hm : m ≤ n) : Rd k w (.slice (some ⟨b, o, none⟩) m c) (xs.take m) := by
  obtain ⟨a, c', e, h1, h2, h3⟩ := h
  injection e with e1 e2 e3
  subst e1 e2 e3
  have hl : (xs.take m).length = m := by rw [List.length_take]; omega
  refine ⟨_, c, by rw [hl], by omega, by omega, ?_⟩
  rcases h3 with h3 | ⟨b', o', ha, hlt, hc⟩
  · subst h3; exact .inl (by simp)
  · injection ha with ha; injection ha with ha1 ha2
    subst ha1 ha2
    refine .inr ⟨b, o, rfl, hlt, fun j hj => ?_⟩
    rw [hl] at hj
    rw [hc j (by omega)]
    simp [List.getD_eq_getElem?_getD, List.getElem?_take, hj]
theorem Rd.nil (k : IntKind) (w : World) : Rd k w (.slice none 0 0) [] := ⟨none, 0, rfl, Nat.zero_le _, Nat.zero_le _, .inl rfl⟩

/-- A new slice of the call's own. -/
def Own (e : TypeId) (k : IntKind) (w : World) (base : Nat) (v : Value) (xs : List Int) : Prop := xs.length ≤ 140737488355328 ∧ w.ownsRow base e 1 v xs.length (xs.map (Value.int k))
theorem below_alloc {w W : World} (h : Below w.heap.size w W) (o : Obj) : Below w.heap.size w (W.alloc o) := h.alloc h.size o
theorem below_drew {B : Nat} {w W : World} (h : Below B w W) : Below B w W.drew := h.drew
theorem below_drewN {B : Nat} {w W : World} (h : Below B w W) (n : Nat) : Below B w (W.drewN n) := ⟨h.os, h.tape, h.output, h.size, h.block⟩
theorem below_then {w W W' : World} (h : Below w.heap.size w W) (h' : Below W.heap.size W W') : Below w.heap.size w W' := h.trans (h'.mono h.size)
theorem Own.rd {e : TypeId} {k : IntKind} {w : World} {base : Nat} {v : Value} {xs : List Int} (h : Own e k w base v xs) : Rd k w v xs := by
  obtain ⟨hl, hx, h2⟩ := h
  rcases h2 with ⟨rfl, hn⟩ | ⟨g, cap, cur, rfl, hb, hh, hcap, hm, hs, ht⟩
  · exact ⟨none, 0, by rw [hn], by omega, by omega, .inl (List.eq_nil_of_length_eq_zero hn)⟩
  · refine ⟨some ⟨g, 0, none⟩, cap, rfl, hcap, hl, .inr ⟨g, 0, rfl, (Array.getElem?_eq_some_iff.1 hh).1, fun j hj => ?_⟩⟩
    have hj' : cur[j]? = some (.int k (xs.getD j 0)) := by
      have h1 : (cur.toList.take (xs.length * 1))[j]? = some (.int k (xs.getD j 0)) := by
        rw [ht, List.getElem?_map, List.getElem?_eq_getElem hj]
        simp [List.getD_eq_getElem?_getD, List.getElem?_eq_getElem hj]
      rw [List.getElem?_take_of_lt (by omega)] at h1
      simpa using h1
    simp [World.cell?, hh, hj']
theorem Own.of_new {e : TypeId} {k : IntKind} {w W : World} {xs : List Int} (hb : w.heap.size ≤ W.heap.size) (hl : xs.length ≤ 140737488355328) :
    Own e k (W.alloc (.cells (xs.map (Value.int k)).toArray e)) w.heap.size (.slice (some ⟨W.heap.size, 0, none⟩) xs.length xs.length) xs := by
  refine ⟨hl, by simp, .inr ⟨W.heap.size, xs.length, (xs.map (Value.int k)).toArray, rfl, hb, ?_, Nat.le_refl _, ?_, by simp, ?_⟩⟩
  · exact heap_alloc_new W _
  · unfold maxLen; omega
  · simp [List.take_of_length_le]
theorem Own.of_new' {e : TypeId} {k : IntKind} {w W : World} {xs : List Int} {n len : Nat} {cs : Array Value} (hb : w.heap.size ≤ W.heap.size) (hn : n = W.heap.size) (hl : len = xs.length) (hlen : xs.length ≤ 140737488355328) (hcs : cs = (xs.map (Value.int k)).toArray) :
    Own e k (W.alloc (.cells cs e)) w.heap.size (.slice (some ⟨n, 0, none⟩) len len) xs := by
  subst hn hl hcs
  exact Own.of_new hb hlen

/-! ### Bits as sums -/
theorem and63 (r : Int) (h0 : 0 ≤ r) (h1 : r < 1099511627776) : bits .and .i64 r 63 = r % 64 :=
  bits_mask .i64 40 (by decide) (fun n a b => by rw [IntKind.wrap_i64]; omega) 6 (by decide) r h0 h1
theorem tail_byte (r : Int) (h0 : 0 ≤ r) (h1 : r < 1099511627776) : bits .or .u8 128 (bits .and .i64 r 63 % 256) = 128 + r % 64 := by
  rw [and63 r h0 h1, show r % 64 % 256 = r % 64 from by omega]
  exact u8_or128 _ (by omega) (by omega)
theorem or_zero_byte (r : Int) (h0 : 0 ≤ r) (h1 : r < 256) : bits .or .u8 0 r = r := by
  rw [u8_or 0 r (by omega) (by omega) h0 h1]
  simp
  omega

/-! ### Laws for operations whose run is a known fact -/
section
variable {P : Program} {ops : Array Oper} {rest : List Oper} {o : Oper} {a : Act} {w : World} {Q : Exit → Act → World → Prop}
theorem wpList_build (t : TypeId) (hg : o.guard = none) {l : List (Nat × Operand)} (ho : o.op = .build t l.toArray) {l' : List (Nat × Value)} {v : Value}
    (hrun : (Instr.build t l'.toArray).run P w = .ok v w) (hp : l.map (fun p => (p.1, a.eval p.2)) = l') (h : wpList P ops Q rest (a.put o.dst v) w) : wpList P ops Q (o :: rest) a w := by
  subst hp
  refine wpList_plain hg fun K hK => ?_
  unfold Oper.wp
  simp only [execOp, ho, List.map_toArray, Sem.run_bind, hrun, Result.andThen_ok, Sem.run_pure, Oper.upon_value]
  exact hK _ _ h
theorem run_store_new {P : Program} {t e : TypeId} {W : World} {cs vs : Array Value} (hi : (P.info? t).map (·.size) = some vs.size) (hl : vs.size = cs.size) (h1 : ∀ v ∈ vs.toList, v.oneCell' = true) :
    (Instr.storeAt t (.pointer (some ⟨W.heap.size, 0, none⟩)) (.agg vs)).run P (W.alloc (.cells cs e)) = .ok () (W.alloc (.cells vs e)) := by
  obtain ⟨i, hq, hs⟩ := Option.map_eq_some_iff.1 hi
  have hst := run_storeCells_at P W.heap.size 0 e vs.toList 0 cs (W.alloc (.cells cs e)) (heap_alloc_new W _) (by simp [hl]) h1
  rw [World.setRow_alloc_new] at hst
  have e1 : (cs.toList.take (0 + 0) ++ vs.toList ++ cs.toList.drop (0 + 0 + vs.toList.length)).toArray = vs := by
    rw [List.drop_of_length_le (by simp [hl])]
    simp
  rw [e1] at hst
  simp [Instr.storeAt, Instr.sureAddr, storeVar, Sem.run_bind, sizeOf, typeInfo, hq, hs, Value.cells, hst]
theorem wpList_store_new (t : TypeId) (hg : o.guard = none) {p x : Operand} (ho : o.op = .store t p x) {W : World} {e : TypeId} {cs vs : Array Value}
    (hw : w = W.alloc (.cells cs e)) (hp : a.eval p = .pointer (some ⟨W.heap.size, 0, none⟩)) (hx : a.eval x = .agg vs)
    (hi : (P.info? t).map (·.size) = some vs.size) (hl : vs.size = cs.size) (h1 : vs.toList.all Value.oneCell' = true)
    (h : wpList P ops Q rest (a.put o.dst undef) (W.alloc (.cells vs e))) : wpList P ops Q (o :: rest) a w := by
  subst hw
  refine wpList_plain hg fun K hK => ?_
  unfold Oper.wp
  simp only [execOp, ho, hp, hx, Sem.run_bind, run_store_new hi hl (fun v hv => List.all_eq_true.1 h1 v hv), Result.andThen_ok, Sem.run_pure, Oper.upon_skip]
  exact hK _ _ h
end
end Go.Proofs.YthllkfbegdmdkaaDoor
