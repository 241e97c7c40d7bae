/- mods.Fold. -/
import Derived.Test.YthllkfbegdmdkaaDoorMods
import Derived.Maps.OwnSet
import Derived.Maps.OwnOps
namespace Go.Proofs.YthllkfbegdmdkaaDoor
open Go.RowKit Go.Maps
set_option linter.unusedSimpArgs false
set_option linter.unusedVariables false
set_option maxRecDepth 100000
set_option maxHeartbeats 4000000
theorem wpList_insert_own {H : Type} {P : Program} (w : World) {ops : Array Oper} {rest : List Oper} {o : Oper} {a : Act} {Q : Exit → Act → World → Prop}
    (hg : o.guard = none) (m x v : Operand) (t : TypeId) (hop : o.op = Op.insert t m x v)
    (k e : TypeId) (K : Keyed P k) (ht : P.underlying t = some (.map k e)) (R : Value → Option (DataW H × List MemPlace)) (b n : Nat) (D : DataW H)
    (hm : a.eval m = .map (some b)) (hown : w.ownsMap P k R b n D) (hn : n < maxLen) (key val : Value) (kl : Lit) (hx : a.eval x = key) (hv : a.eval v = val) (hkey : keyOf P k key = some kl)
    (d : DataW H) (ps : List MemPlace) (hval : R val = some (d, ps))
    (hK : ∀ w', w'.ownsMap P k R b (n + 1) (D.put kl d) → w.grownBy w' (some b) → wpList P ops Q rest (a.put o.dst undef) w') :
    wpList P ops Q (o :: rest) a w := by
  refine wpList_plain hg fun K' hK' => ?_
  obtain ⟨w', hrun, r1, r2⟩ := hown.update K ht hn hkey hval
  unfold Oper.wp
  simp [execOp, hop, hm, hx, hv, hrun, Result.andThen]
  exact hK' _ _ (hK w' r1 r2)

theorem law32 : Keyed Tryd.prog 21 := int_keyed Tryd.underlying21
theorem zeroInt (w : World) : (zeroValue 3).run Tryd.prog w = .ok (.int .i64 0) w := by kernel_rfl
def foldPut (D : DataW Unit) (p : Int × Int) : DataW Unit := D.put (.int .i32 p.1) (.lit (.int .i64 p.2))
def foldList : List (Int × Int) := [(32, 0), (50, 0), (64, 0), (51, 27), (91, 27), (52, 28), (92, 28), (53, 29), (93, 29), (54, 30), (94, 30), (55, 31), (47, 31), (95, 31), (56, 127), (63, 127)]
def foldD (n : Nat) : DataW Unit := (foldList.take n).foldl foldPut (.map [])
theorem foldD_succ {n : Nat} {p : Int × Int} (h : foldList[n]? = some p) : foldD (n + 1) = foldPut (foldD n) p := by
  rw [foldD, List.take_add_one, h, List.foldl_append]; rfl
theorem fold_insert {ops : Array Oper} {rest : List Oper} {a : Act} {w w0 : World} {Q : Exit → Act → World → Prop} {n : Nat} {b : Nat} {x v : Int} {m : Operand} {dst : Option Tmp} {ty : TypeId} {pos : String} {after : Array Edge}
    (hm : a.eval m = .map (some b)) (hown : w.ownsMap Tryd.prog 21 (plainElem Tryd.prog 3) b n (foldD n)) (hB : Below b w0 w) (hx : foldList[n]? = some (x, v)) (hn : n < 20) (h1 : (Lit.int .i32 x).wf = true) (h2 : (Lit.int .i64 v).wf = true)
    (hK : ∀ w', w'.ownsMap Tryd.prog 21 (plainElem Tryd.prog 3) b (n + 1) (foldD (n + 1)) → Below b w0 w' → wpList Tryd.prog ops Q rest (a.put dst undef) w') :
    wpList Tryd.prog ops Q ({ dst, op := Op.insert 93 m (.const (.int .i32 x)) (.const (.int .i64 v)), type := ty, pos, after, guard := none } :: rest) a w :=
  wpList_insert_own w rfl _ _ _ 93 rfl 21 3 law32 Tryd.underlying93 _ b n (foldD n) hm hown (by unfold maxLen; omega) _ _ _ rfl rfl (keyOf_int_mk Tryd.underlying21 h1) _ [] (plainElem_int Tryd.underlying3 h2)
    (by rw [foldD_succ hx] at hK; exact fun w' h hg => hK w' h (hB.grown hg (Nat.le_of_lt hown.lt) (fun j hj => by cases hj; exact Nat.le_refl _)))
def foldL (c : Int) : Int × Bool := match foldList.find? (·.1 == c) with | some p => (p.2, true) | none => (0, false)
theorem foldL_eq (c : Int) (h0 : 0 ≤ c) (h1 : c ≤ 255) : Maps.has (foldD 16) (.int .i32 c) = (foldL c).2 ∧ (foldD 16).atKey (.int .i32 c) (.lit (.int .i64 0)) = .lit (.int .i64 (foldL c).1) := by
  have h : ∀ k : Fin 256, Maps.has (foldD 16) (.int .i32 (k.val : Int)) = (foldL (k.val : Int)).2 ∧ (match (foldD 16).atKey (.int .i32 (k.val : Int)) (.lit (.int .i64 0)) with | .lit (.int .i64 x) => x == (foldL (k.val : Int)).1 | _ => false) = true := by decide +kernel
  have h2 := h ⟨c.toNat, by omega⟩
  rw [show (((⟨c.toNat, by omega⟩ : Fin 256).val : Nat) : Int) = c from by simp; omega] at h2
  refine ⟨h2.1, ?_⟩
  have h3 := h2.2
  split at h3
  · rename_i x hx
    rw [hx, show x = (foldL c).1 from by simpa using h3]
  · cases h3
/-- The control character of a character. -/
def foldF (c : Int) : Int × Bool := if 97 ≤ c ∧ c ≤ 122 then (c - 96, true) else if 65 ≤ c ∧ c ≤ 90 then (c - 64, true) else if c < 0 ∨ 255 < c then (0, false) else foldL c
theorem fold_lookup {ops : Array Oper} {rest : List Oper} {a : Act} {w : World} {Q : Exit → Act → World → Prop} {b : Nat} {c : Int} {m x : Operand} {dst : Option Tmp} {ty : TypeId} {pos : String} {after : Array Edge}
    (hm : a.eval m = .map (some b)) (hown : w.ownsMap Tryd.prog 21 (plainElem Tryd.prog 3) b 16 (foldD 16)) (hx : a.eval x = .int .i32 c) (h0 : 0 ≤ c) (h1 : c ≤ 255)
    (hK : wpList Tryd.prog ops Q rest (a.put dst (.tuple #[.int .i64 (foldL c).1, .bool (foldL c).2])) w) :
    wpList Tryd.prog ops Q ({ dst, op := Op.lookup 93 m x true, type := ty, pos, after, guard := none } :: rest) a w :=
  wpList_lookup_own_ok_int w rfl _ _ 93 rfl 21 3 .i64 law32 Tryd.underlying93 Tryd.underlying3 (zeroInt _) b 16 (foldD 16) hm hown _ _ hx (keyOf_int_mk Tryd.underlying21 (by have e1 : IntKind.i32.min = -2147483648 := rfl; have e2 : IntKind.i32.max = 2147483647 := rfl; simp only [Lit.wf, e1, e2, Bool.and_eq_true, decide_eq_true_eq]; omega))
    (fun v hv _ => by
      have h := foldL_eq c h0 h1
      rw [h.2] at hv
      rw [h.1]
      injection hv with hv; injection hv with _ hv
      rw [← hv]; exact hK)

theorem mods_Fold (c : Int) (hc : in64 c) (w : World) : Calls Tryd.prog 32 #[.int .i64 c] w fun e w' => e = .returned (.tuple #[.int .i64 (foldF c).1, .bool (foldF c).2]) ∧ Below w.heap.size w w' := by
  have hmm := @run_makeMap Tryd.prog
  have hm0 : (w.alloc (.map #[] 0)).ownsMap Tryd.prog 21 (plainElem Tryd.prog 3) w.heap.size 0 (foldD 0) := World.ownsMap_made _ _ _ _
  have hB0 : Below w.heap.size w (w.alloc (.map #[] 0)) := below_alloc (Below.refl _ _) _
  have hF : Hid (foldF c = if 97 ≤ c ∧ c ≤ 122 then (c - 96, true) else if 65 ≤ c ∧ c ≤ 90 then (c - 64, true) else if c < 0 ∨ 255 < c then (0, false) else foldL c) := rfl
  generalize foldF c = X at hF ⊢
  unfold in64 at hc
  go_enter Tryd.func32, Tryd.ntmps32
  rcases (by omega : (97 ≤ c ∧ c ≤ 122) ∨ (65 ≤ c ∧ c ≤ 90) ∨ c < 0 ∨ 255 < c ∨ (0 ≤ c ∧ c < 65) ∨ (90 < c ∧ c < 97) ∨ (122 < c ∧ c ≤ 255)) with ⟨h1, h2⟩ | ⟨h1, h2⟩ | h1 | h1 | ⟨h1, h2⟩ | ⟨h1, h2⟩ | ⟨h1, h2⟩
  all_goals
    go_wp2_with (first | ((with_reducible apply fold_insert); exact rfl; assumption; assumption; exact rfl; decide; exact rfl; exact rfl; intro w1 hown1 hgrow1) | ((with_reducible apply fold_lookup); exact rfl; assumption; exact rfl; omega; omega))
  all_goals
    go_ret2
    rw [hF.out]
    refine ⟨?_, by assumption⟩
  · rw [if_pos ⟨h1, h2⟩, show c - 96 = c - 97 + 1 from by omega]; rfl
  · rw [if_neg (by omega), if_pos ⟨h1, h2⟩, show c - 64 = c - 65 + 1 from by omega]; rfl
  · rw [if_neg (by omega), if_neg (by omega), if_pos (.inl h1)]; rfl
  · rw [if_neg (by omega), if_neg (by omega), if_pos (.inr h1)]; rfl
  all_goals
    rw [if_neg (by omega), if_neg (by omega), if_neg (by omega)]; rfl
end Go.Proofs.YthllkfbegdmdkaaDoor
