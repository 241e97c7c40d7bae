/- A struct of one-cell fields, by value, and what a law's row asks of arguments without memory. -/
import Derived.WalkKit
import Derived.ProofKit
import Derived.OpenShut
import Derived.Deep.DeepHandedRow
import Derived.Lib.LaidTab
import Derived.Lib.SmallJoins
import Derived.Test.YthllkfbegdmdkaaDoorKey
namespace Go.Proofs.YthllkfbegdmdkaaDoor
open Go.Joins Go.ChangeShapes Go.WideShapes Go.RowKit Go.Deep
set_option linter.unusedSimpArgs false
set_option linter.unusedVariables false
set_option maxRecDepth 100000

section
variable {H : Type} {enc : TypeId × Value → H} {P : Program} {w : World} {base : Nat} {spare : Nat → Bool} {held : Bool}
/-- A struct of one-cell fields is opened: its cells, its parts, each part's reading. -/
theorem open_flat {r : Reach} {b0 : Nat} {t : TypeId} {fs : Array Field} {v : Value} {d : DataW H} {p : List MemPlace} (hs : P.underlying t = some (.struct fs)) (hone : oneCellFields P fs = true) (hC : P.cellsOf t = fs.size)
    (hv : Value.okWide P w r b0 t v) (h : DataW.Trod enc P w base spare held t v d p) :
    ∃ (cs : Array Value) (ys : List (DataW H × List MemPlace)) (n : Nat), v = .agg cs ∧ cs.size = fs.size ∧ d = .agg (ys.map (·.1)) ∧ p = ys.flatMap (·.2) ∧ ys.length = fs.size ∧
      ∀ (j : Nat) (f : Field), fs[j]? = some f → ∃ u y, cs[j]? = some u ∧ ys[j]? = some y ∧ DataW.trod enc P w base spare held n f.type [u] = some y := by
  obtain ⟨cs, rfl, hsz⟩ := okWide_struct hs hv
  obtain ⟨fuel, hf⟩ := h
  obtain ⟨ys, n, _, hx, hl, hlen, hg⟩ := DataW.trod_struct hs hf
  simp only [Prod.mk.injEq] at hx
  refine ⟨cs, ys, n, rfl, hsz.trans hC, hx.1, hx.2, hlen, fun j f hj => ?_⟩
  obtain ⟨o0, k0⟩ := hone_of hone j f hj
  have hjl : j < fs.size := (Array.getElem?_eq_some_iff.1 hj).1
  have hjc : j < cs.size := by omega
  have hjy : j < ys.length := by omega
  have h1 := hg j f hj
  rw [o0, k0] at h1
  have h2 : ((Value.agg cs).cells.toList.drop j).take 1 = [cs[j]] := by
    simp only [Value.cells]
    rw [List.drop_eq_getElem_cons (by simpa using hjc)]
    simp
  rw [h2] at h1
  exact ⟨cs[j], ys[j], Array.getElem?_eq_getElem hjc, List.getElem?_eq_getElem hjy, h1.trans (List.getElem?_eq_getElem hjy)⟩
end
theorem post_flat {H : Type} {enc : TypeId × Value → H} {P : Program} {f : Func} {s : ChangeSpec} {apart fresh handsOn again : Bool} {W W' : World} {args : Array Value} {v : Value} {ds gs : List (DataW H)}
    (hW : DataW.Whole enc P f.params.toList s.vars apart W args.toList ds gs [])
    (hres : ∀ (b : Nat) (sp : Nat → Bool) (hd : Bool), DataW.TrodAll enc P W' b sp hd f.resultTypes.toList (v.resultList f.resultTypes.size) (s.fn H (ds ++ gs)).results [])
    (hargs : ∀ sp : Nat → Bool, DataW.TrodAll enc P W' 0 sp true f.params.toList args.toList (s.fn H (ds ++ gs)).args [])
    (hvars : ∀ sp : Nat → Bool, DataW.TrodVars enc P W' sp s.vars (s.fn H (ds ++ gs)).vars [])
    (hk : Below W.heap.size W W')
    (hok : ∀ (j : Nat) (t : TypeId) (r : Value), f.resultTypes[j]? = some t → (v.resultList f.resultTypes.size)[j]? = some r → Value.okWide P W' .any 0 t r) :
    s.post enc P f apart fresh handsOn again W args v W' := by
  have hkb : W.keptBut W' (fun _ => False) := ⟨hk.os, hk.output, fun i hi => by
    rw [hk.block i hi]
    cases W.heap[i]? with
    | none => rfl
    | some o => cases o <;> simp⟩
  refine ⟨ds, gs, [], [], [], [], hW, hres _ _ _, hargs _, hvars _, World.keptBut_mono (fun p hp => hp.elim) hkb, fun _ => ?_⟩
  refine ⟨hok, _, _, [], ⟨[], [], by simpa using trodAll_append (hargs _) (hres _ _ _), hvars _, rfl, ?_, ?_⟩, ?_⟩
  · intro b off hp; simp at hp
  · intro _; exact List.nodup_nil
  · intro p hp; simp at hp
def modeD {H : Type} (m : ModeV) : DataW H := .agg [.lit (.bool m.b0), .lit (.bool m.b1), .lit (.bool m.b2), .lit (.bool m.b3), .lit (.bool m.b4), .lit (.bool m.b5), .lit (.bool m.b6), .lit (.int .i64 m.mouse), .lit (.int .i64 m.coding), .lit (.int .i64 m.other)]
def keyD {H : Type} (m : KeyV) : DataW H := .agg [.lit (.int .i64 m.code), .lit (.int .i64 m.mods), .lit (.int .i64 m.type), .lit (.int .i64 m.shifted), .lit (.int .i64 m.base), .lit (.string m.text.data.toList)]
section
variable {H : Type} {enc : TypeId × Value → H} {w : World} {base : Nat} {spare : Nat → Bool} {held : Bool}
theorem open_mode {r : Reach} {b0 : Nat} {v : Value} {d : DataW H} {p : List MemPlace} (hv : Value.okWide Tryd.prog w r b0 23 v) (h : DataW.Trod enc Tryd.prog w base spare held 23 v d p) :
    ∃ m : ModeV, v = m.v ∧ d = modeD m ∧ p = [] ∧ (Lit.int .i64 m.mouse).wf = true ∧ (Lit.int .i64 m.coding).wf = true ∧ (Lit.int .i64 m.other).wf = true := by
  obtain ⟨⟨l⟩, ys, n, rfl, hsz, rfl, rfl, hlen, hf⟩ := open_flat Tryd.underlying23 (by kernel_rfl) (by kernel_rfl) hv h
  match l, hsz, ys, hlen with
  | [c0, c1, c2, c3, c4, c5, c6, c7, c8, c9], _, [y0, y1, y2, y3, y4, y5, y6, y7, y8, y9], _ =>
    obtain ⟨u, y, e1, e2, h0⟩ := hf 0 _ rfl
    obtain rfl : c0 = u := by simpa using e1
    obtain rfl : y0 = y := by simpa using e2
    clear e1 e2
    obtain ⟨x0, q0, rfl⟩ := DataW.trod_bool Tryd.underlying4 h0
    obtain rfl := (List.cons.inj q0).1
    obtain ⟨u, y, e1, e2, h1⟩ := hf 1 _ rfl
    obtain rfl : c1 = u := by simpa using e1
    obtain rfl : y1 = y := by simpa using e2
    clear e1 e2
    obtain ⟨x1, q1, rfl⟩ := DataW.trod_bool Tryd.underlying4 h1
    obtain rfl := (List.cons.inj q1).1
    obtain ⟨u, y, e1, e2, h2⟩ := hf 2 _ rfl
    obtain rfl : c2 = u := by simpa using e1
    obtain rfl : y2 = y := by simpa using e2
    clear e1 e2
    obtain ⟨x2, q2, rfl⟩ := DataW.trod_bool Tryd.underlying4 h2
    obtain rfl := (List.cons.inj q2).1
    obtain ⟨u, y, e1, e2, h3⟩ := hf 3 _ rfl
    obtain rfl : c3 = u := by simpa using e1
    obtain rfl : y3 = y := by simpa using e2
    clear e1 e2
    obtain ⟨x3, q3, rfl⟩ := DataW.trod_bool Tryd.underlying4 h3
    obtain rfl := (List.cons.inj q3).1
    obtain ⟨u, y, e1, e2, h4⟩ := hf 4 _ rfl
    obtain rfl : c4 = u := by simpa using e1
    obtain rfl : y4 = y := by simpa using e2
    clear e1 e2
    obtain ⟨x4, q4, rfl⟩ := DataW.trod_bool Tryd.underlying4 h4
    obtain rfl := (List.cons.inj q4).1
    obtain ⟨u, y, e1, e2, h5⟩ := hf 5 _ rfl
    obtain rfl : c5 = u := by simpa using e1
    obtain rfl : y5 = y := by simpa using e2
    clear e1 e2
    obtain ⟨x5, q5, rfl⟩ := DataW.trod_bool Tryd.underlying4 h5
    obtain rfl := (List.cons.inj q5).1
    obtain ⟨u, y, e1, e2, h6⟩ := hf 6 _ rfl
    obtain rfl : c6 = u := by simpa using e1
    obtain rfl : y6 = y := by simpa using e2
    clear e1 e2
    obtain ⟨x6, q6, rfl⟩ := DataW.trod_bool Tryd.underlying4 h6
    obtain rfl := (List.cons.inj q6).1
    obtain ⟨u, y, e1, e2, h7⟩ := hf 7 _ rfl
    obtain rfl : c7 = u := by simpa using e1
    obtain rfl : y7 = y := by simpa using e2
    clear e1 e2
    obtain ⟨x7, q7, rfl, w7⟩ := DataW.trod_int Tryd.underlying3 h7
    obtain rfl := (List.cons.inj q7).1
    obtain ⟨u, y, e1, e2, h8⟩ := hf 8 _ rfl
    obtain rfl : c8 = u := by simpa using e1
    obtain rfl : y8 = y := by simpa using e2
    clear e1 e2
    obtain ⟨x8, q8, rfl, w8⟩ := DataW.trod_int Tryd.underlying3 h8
    obtain rfl := (List.cons.inj q8).1
    obtain ⟨u, y, e1, e2, h9⟩ := hf 9 _ rfl
    obtain rfl : c9 = u := by simpa using e1
    obtain rfl : y9 = y := by simpa using e2
    clear e1 e2
    obtain ⟨x9, q9, rfl, w9⟩ := DataW.trod_int Tryd.underlying3 h9
    obtain rfl := (List.cons.inj q9).1
    exact ⟨⟨x0, x1, x2, x3, x4, x5, x6, x7, x8, x9⟩, rfl, rfl, rfl, w7, w8, w9⟩
theorem open_key {r : Reach} {b0 : Nat} {v : Value} {d : DataW H} {p : List MemPlace} (hv : Value.okWide Tryd.prog w r b0 25 v) (h : DataW.Trod enc Tryd.prog w base spare held 25 v d p) :
    ∃ m : KeyV, v = m.v ∧ d = keyD m ∧ p = [] ∧ (Lit.int .i64 m.code).wf = true ∧ (Lit.int .i64 m.mods).wf = true ∧ (Lit.int .i64 m.type).wf = true ∧ (Lit.int .i64 m.shifted).wf = true ∧ (Lit.int .i64 m.base).wf = true ∧ m.text.size ≤ maxLen := by
  obtain ⟨⟨l⟩, ys, n, rfl, hsz, rfl, rfl, hlen, hf⟩ := open_flat Tryd.underlying25 (by kernel_rfl) (by kernel_rfl) hv h
  match l, hsz, ys, hlen with
  | [c0, c1, c2, c3, c4, c5], _, [y0, y1, y2, y3, y4, y5], _ =>
    obtain ⟨u, y, e1, e2, h0⟩ := hf 0 _ rfl
    obtain rfl : c0 = u := by simpa using e1
    obtain rfl : y0 = y := by simpa using e2
    clear e1 e2
    obtain ⟨x0, q0, rfl, w0⟩ := DataW.trod_int Tryd.underlying3 h0
    obtain rfl := (List.cons.inj q0).1
    obtain ⟨u, y, e1, e2, h1⟩ := hf 1 _ rfl
    obtain rfl : c1 = u := by simpa using e1
    obtain rfl : y1 = y := by simpa using e2
    clear e1 e2
    obtain ⟨x1, q1, rfl, w1⟩ := DataW.trod_int Tryd.underlying3 h1
    obtain rfl := (List.cons.inj q1).1
    obtain ⟨u, y, e1, e2, h2⟩ := hf 2 _ rfl
    obtain rfl : c2 = u := by simpa using e1
    obtain rfl : y2 = y := by simpa using e2
    clear e1 e2
    obtain ⟨x2, q2, rfl, w2⟩ := DataW.trod_int Tryd.underlying3 h2
    obtain rfl := (List.cons.inj q2).1
    obtain ⟨u, y, e1, e2, h3⟩ := hf 3 _ rfl
    obtain rfl : c3 = u := by simpa using e1
    obtain rfl : y3 = y := by simpa using e2
    clear e1 e2
    obtain ⟨x3, q3, rfl, w3⟩ := DataW.trod_int Tryd.underlying3 h3
    obtain rfl := (List.cons.inj q3).1
    obtain ⟨u, y, e1, e2, h4⟩ := hf 4 _ rfl
    obtain rfl : c4 = u := by simpa using e1
    obtain rfl : y4 = y := by simpa using e2
    clear e1 e2
    obtain ⟨x4, q4, rfl, w4⟩ := DataW.trod_int Tryd.underlying3 h4
    obtain rfl := (List.cons.inj q4).1
    obtain ⟨u, y, e1, e2, h5⟩ := hf 5 _ rfl
    obtain rfl : c5 = u := by simpa using e1
    obtain rfl : y5 = y := by simpa using e2
    clear e1 e2
    obtain ⟨x5, q5, rfl, w5⟩ := DataW.trod_string Tryd.underlying9 h5
    obtain rfl := (List.cons.inj q5).1
    exact ⟨⟨x0, x1, x2, x3, x4, x5⟩, rfl, rfl, rfl, w0, w1, w2, w3, w4, w5⟩
theorem shut_mode (m : ModeV) (h7 : (Lit.int .i64 m.mouse).wf = true) (h8 : (Lit.int .i64 m.coding).wf = true) (h9 : (Lit.int .i64 m.other).wf = true) : DataW.Trod enc Tryd.prog w base spare held 23 m.v (modeD m) [] :=
  ⟨2, by
    have hC : Tryd.prog.cellsOf 23 = 10 := by kernel_rfl
    have hi : Tryd.prog.cellsOf 3 = 1 := by kernel_rfl
    have hb : Tryd.prog.cellsOf 4 = 1 := by kernel_rfl
    refine (trod_struct_mk (n := 1) (xs := [(.lit (.bool m.b0), []), (.lit (.bool m.b1), []), (.lit (.bool m.b2), []), (.lit (.bool m.b3), []), (.lit (.bool m.b4), []), (.lit (.bool m.b5), []), (.lit (.bool m.b6), []), (.lit (.int .i64 m.mouse), []), (.lit (.int .i64 m.coding), []), (.lit (.int .i64 m.other), [])]) Tryd.underlying23 (by simp [ModeV.v, Value.cells, hC]) ?_).trans (by simp [modeD])
    simp [ModeV.v, Value.cells, hi, hb, DataW.trod, Tryd.underlying4, Tryd.underlying3, h7, h8, h9]⟩
theorem shut_key (k : KeyV) (h0 : (Lit.int .i64 k.code).wf = true) (h1 : (Lit.int .i64 k.mods).wf = true) (h2 : (Lit.int .i64 k.type).wf = true) (h3 : (Lit.int .i64 k.shifted).wf = true) (h4 : (Lit.int .i64 k.base).wf = true) (h5 : k.text.size ≤ maxLen) : DataW.Trod enc Tryd.prog w base spare held 25 k.v (keyD k) [] :=
  ⟨2, by
    have hC : Tryd.prog.cellsOf 25 = 6 := by kernel_rfl
    have hi : Tryd.prog.cellsOf 3 = 1 := by kernel_rfl
    have hb : Tryd.prog.cellsOf 9 = 1 := by kernel_rfl
    refine (trod_struct_mk (n := 1) (xs := [(.lit (.int .i64 k.code), []), (.lit (.int .i64 k.mods), []), (.lit (.int .i64 k.type), []), (.lit (.int .i64 k.shifted), []), (.lit (.int .i64 k.base), []), (.lit (.string k.text.data.toList), [])]) Tryd.underlying25 (by simp [KeyV.v, Value.cells, hC]) ?_).trans (by simp [keyD])
    simp [KeyV.v, Value.cells, hi, hb, DataW.trod, Tryd.underlying9, Tryd.underlying3, h0, h1, h2, h3, h4, h5]⟩
end
end Go.Proofs.YthllkfbegdmdkaaDoor
