/- wire.glue. -/
import Derived.Test.YthllkfbegdmdkaaDoorJoin
import Derived.Lib.AppendStr
namespace Go.Proofs.YthllkfbegdmdkaaDoor
open Go.RowKit
set_option linter.unusedSimpArgs false
set_option linter.unusedVariables false
set_option maxRecDepth 100000
set_option maxHeartbeats 1000000

/-- Bytes as numbers. -/
def bI (l : BL) : List Int := l.map fun x => (x.toNat : Int)
theorem bI_len (l : BL) : (bI l).length = l.length := by simp [bI]
theorem bI_range (l : BL) : ∀ x ∈ bI l, 0 ≤ x ∧ x ≤ 255 := by
  intro x hx
  obtain ⟨b, _, rfl⟩ := List.mem_map.1 hx
  have := b.toNat_lt
  omega
theorem bytesOf_ba (l : BL) : bytesOf (ba l) = bI l := by rw [bytesOf, ba_data]; rfl
theorem strCells_ba (l : BL) : Lib.strCells (ba l) = (bI l).map (Value.int .u8) := by
  rw [Lib.strCells, ba_data, bI, List.map_map]; rfl
theorem infoU8 : (Tryd.prog.info? 5).map (fun i => (i.zero, i.size, i.bytes)) = some (some (.int .u8 0), 1, 1) := by kernel_rfl
theorem join_flat : ∀ xs : List BL, Lib.join xs [] = xs.flatten
  | [] => rfl
  | [x] => by rw [Lib.join_one]; simp
  | x :: y :: r => by
    have h := join_flat (y :: r)
    rw [Lib.join_cons] at h ⊢
    simp only [Lib.joinTail, List.nil_append, List.map_cons, List.flatten_cons] at h ⊢
    rw [h]
theorem wire_glue (g n : Nat) (xs : List BL) (w : World) (hn : xs.length = n) (hg : g < w.heap.size) (hn10 : n ≤ 10) (hc : ∀ j x, xs[j]? = some x → w.cell? ⟨g, j, none⟩ = some (.string (ba x))) (hB : ∀ x ∈ xs, x.length ≤ 10000) :
    Calls Tryd.prog 37 #[.slice (some ⟨g, 0, none⟩) n n] w fun e w' => ∃ v, e = .returned v ∧ Own 5 .u8 w' w.heap.size v (bI (27 :: xs.flatten)) ∧ Below w.heap.size w w' := by
  obtain ⟨i0, hi0, hz0, hz1, hz2⟩ := info_parts infoU8
  have hdd : (xs.map ba).map (·.data.toList) = xs := by
    rw [List.map_map]
    conv => rhs; rw [← List.map_id xs]
    refine List.map_congr_left fun x _ => ?_
    simp only [Function.comp, ba_data, id]
  have hlen : (Lib.join xs []).length ≤ 100000 := by
    have hb := join_le 10000 xs [] hB
    rw [hn] at hb
    have h2 : (([] : BL).length + 10000) * n ≤ 10000 * 10 := Nat.mul_le_mul (by simp) hn10
    omega
  have hJ := Lib.hid (fun (W : World) (hW : Below w.heap.size w W) => Tryd.strings_Join g 0 n (xs.map ba) ⟨#[]⟩ W (fun j x hx => by
      rw [List.getElem?_map] at hx
      cases hq : xs[j]? with
      | none => rw [hq] at hx; cases hx
      | some y =>
        rw [hq] at hx; simp at hx; subst hx
        rw [Nat.zero_add]
        exact (hW.cell (p := ⟨g, j, none⟩) hg).trans (hc j y hq)) (Nat.lt_of_lt_of_le hg hW.size) (by rw [List.length_map]; omega) (by rw [List.length_map]; omega) (by rw [hdd]; show (Lib.join xs []).length ≤ _; omega))
  rw [hdd, List.length_map, hn] at hJ
  have hJ2 : Hid (∀ (W : World), Below w.heap.size w W → Calls Tryd.prog 58 #[.slice (some ⟨g, 0, none⟩) n n, .string ⟨#[]⟩] W fun e w' => e = .returned (.string (ba xs.flatten)) ∧ Below W.heap.size W w') := by
    have := hJ.out
    simp only [show (⟨#[]⟩ : ByteArray).data.toList = [] from rfl, join_flat] at this
    exact this
  rw [join_flat] at hlen
  have hcells := strCells_ba xs.flatten
  have hsz := ba_size xs.flatten
  have hbI : bI (27 :: xs.flatten) = 27 :: bI xs.flatten := rfl
  rw [hbI]
  have hC := Lib.hid hcells
  have hS := Lib.hid hsz
  have hLb := bI_len xs.flatten
  generalize ba xs.flatten = F at *
  generalize bI xs.flatten = T at *
  have hLb' := Lib.hid hLb
  generalize xs.flatten = fl at *
  clear hJ hc hB hdd hcells hsz hbI hLb
  have hFs : F.size ≤ 100000 := by have := hS.out; omega
  have hFs2 := Lib.hid hFs
  go_enter Tryd.func37, Tryd.ntmps37
  have hown0 : ∀ w2, Below (w.alloc (.cells #[Value.int .u8 27] 5)).heap.size (w.alloc (.cells #[Value.int .u8 27] 5)) w2 → w2.ownsRow w.heap.size 5 1 (.slice (some ⟨w.heap.size, 0, none⟩) 1 1) 1 [.int .u8 27] := fun w2 hb2 =>
    ownsRow_agree (Own.of_new' (e := 5) (k := .u8) (xs := [27]) (cs := #[Value.int .u8 27]) (Nat.le_refl w.heap.size) rfl rfl (by simp) rfl).2 (S := fun _ => True) (fun _ _ => trivial) (Agree.of_below hb2)
  go_wp2_with (first | (go_at_call 58; refine (hJ2.out _ (below_alloc (Below.refl _ _) _)).mono ?_; rintro e w2 ⟨rfl, hb2⟩) | (at_builtin; refine Lib.wpList_append_own_string w2 rfl _ _ 27 9 rfl w.heap.size 5 i0 Tryd.underlying27 Tryd.underlying9 hi0 hz0 hz1 hz2 _ 1 _ rfl (hown0 w2 hb2) F rfl (by unfold maxLen; omega) (by omega) (by have := hb2.size; simp at this; omega) ?_; intro v' w3 hown3 hgrow3 _))
  go_ret
  refine ⟨_, rfl, ⟨?_, ?_⟩, ?_⟩
  · have := hLb'.out; have := hS.out; simp; omega
  · have e1 : (27 :: T).length = 1 + F.size := by have := hLb'.out; have := hS.out; simp; omega
    rw [e1, List.map_cons, ← hC.out]
    exact hown3
  · exact (((Below.refl _ w).alloc (Nat.le_refl _) _).trans (hb2.mono (by simp))).grown hgrow3 (by have := hb2.size; simp at this; omega) (fun k hk => by cases hk; exact Nat.le_refl _)
end Go.Proofs.YthllkfbegdmdkaaDoor
