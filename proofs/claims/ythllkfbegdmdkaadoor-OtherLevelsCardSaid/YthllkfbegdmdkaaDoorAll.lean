/- utf.points, utf.All. -/
import Derived.Test.YthllkfbegdmdkaaDoorTake
import Derived.Test.YthllkfbegdmdkaaDoorRange
namespace Go.Proofs.YthllkfbegdmdkaaDoor
open Go.RowKit
set_option linter.unusedSimpArgs false
set_option linter.unusedVariables false
attribute [local go_sem] Oper.semAt_some

theorem Agree.frozen {S : Nat → Prop} {A B : World} (h : Agree S A B) {p : Addr} (hs : S p.block) (hp : p.block < A.heap.size) : B.frozen? p = A.frozen? p := World.frozen?_of_block (w := A) (h.block p.block hp hs)
def blkOf : Value → Nat → Prop
  | .slice (some a) _ _, k => k = a.block
  | _, _ => False
theorem Rd.agree {k : IntKind} {S : Nat → Prop} {A B : World} {v : Value} {xs : List Int} (h : Rd k A v xs) (hS : ∀ b, blkOf v b → S b) (hb : Agree S A B) : Rd k B v xs := by
  obtain ⟨a, c, e, h1, h2, h3⟩ := h
  refine ⟨a, c, e, h1, h2, ?_⟩
  rcases h3 with h3 | ⟨b, o, ha, hlt, hc⟩
  · exact .inl h3
  · refine .inr ⟨b, o, ha, Nat.lt_of_lt_of_le hlt hb.size, fun j hj => hb.cell (p := ⟨b, o + j, none⟩) (hS b ?_) (hc j hj)⟩
    rw [e, ha]; rfl
theorem Rd.len {k : IntKind} {w : World} {v : Value} {xs : List Int} (h : Rd k w v xs) : ∃ a c, v = .slice a xs.length c := by
  obtain ⟨a, c, e, _⟩ := h; exact ⟨a, c, e⟩
theorem Rd.parts {k : IntKind} {w : World} {v : Value} {xs : List Int} (h : Rd k w v xs) (hx : xs ≠ []) : ∃ b o c, v = .slice (some ⟨b, o, none⟩) xs.length c ∧ xs.length ≤ c ∧ b < w.heap.size := by
  obtain ⟨a, c, e, h1, h2, h3⟩ := h
  rcases h3 with h3 | ⟨b, o, ha, hlt, hc⟩
  · exact absurd h3 hx
  · exact ⟨b, o, c, by rw [e, ha], h1, hlt⟩
theorem Rd.drop {k : IntKind} {w : World} {b o n c : Nat} {xs : List Int} (h : Rd k w (.slice (some ⟨b, o, none⟩) n c) xs) (m : Nat) (hm : m ≤ n) :
    Rd k w (.slice (some ⟨b, o + m, none⟩) (n - m) (c - m)) (xs.drop m) := by
  obtain ⟨a, c', e, h1, h2, h3⟩ := h
  injection e with e1 e2 e3
  subst e1 e2 e3
  have hl : (xs.drop m).length = xs.length - m := by rw [List.length_drop]
  refine ⟨_, c - m, by rw [hl], by omega, by omega, ?_⟩
  rcases h3 with h3 | ⟨b', o', ha, hlt, hc⟩
  · subst h3; exact .inl (by simp)
  · injection ha with ha; injection ha with ha1 ha2
    subst ha1 ha2
    refine .inr ⟨b, o + m, rfl, hlt, fun j hj => ?_⟩
    rw [hl] at hj
    rw [show o + m + j = o + (m + j) from by omega, hc (m + j) (by omega)]
    simp [List.getD_eq_getElem?_getD, List.getElem?_drop]

theorem Rd.drop_if {k : IntKind} {w : World} {b o n c : Nat} {xs : List Int} (h : Rd k w (.slice (some ⟨b, o, none⟩) n c) xs) (m : Nat) (hm : m ≤ n) :
    Rd k w (.slice (if c = m then some ⟨b, o, none⟩ else some ⟨b, o + m, none⟩) (n - m) (c - m)) (xs.drop m) := by
  by_cases hc : c = m
  · obtain ⟨a, c', e, h1, h2, h3⟩ := h
    injection e with e1 e2 e3
    have hl : (xs.drop m) = [] := List.drop_of_length_le (by omega)
    rw [if_pos hc, hl, show n - m = 0 from by omega]
    exact ⟨_, c - m, rfl, Nat.zero_le _, Nat.zero_le _, .inl rfl⟩
  · rw [if_neg hc]; exact h.drop m hm

/-- What utf.points hands on. -/
def pts : Nat → List Int → List (Int × Bool)
  | 0, _ => []
  | f + 1, b => if b = [] then [] else if (utfTake b).2 = 0 then [((utfTake b).1, false)] else ((utfTake b).1, true) :: pts f (b.drop (utfTake b).2)
def ptArgs (p : Int × Bool) : Array Value := #[.int .i64 p.1, .bool p.2]
theorem tryN_le {b : List Int} {k : Nat} (h : tryN b k = true) : k ≤ b.length := by
  simp [tryN] at h; exact h.1.1
theorem utfTake_le (b : List Int) : (utfTake b).2 ≤ b.length := by
  unfold utfTake
  repeat' split
  all_goals first | exact tryN_le (by assumption) | exact Nat.zero_le _
def leftAt (bx : Nat) (w : World) : Nat := match w.cell? ⟨bx, 0, none⟩ with | some (.slice _ n _) => n | _ => 0
theorem leftAt_eq {bx : Nat} {w : World} {a : Option Addr} {n c : Nat} (h : w.cell? ⟨bx, 0, none⟩ = some (.slice a n c)) : leftAt bx w = n := by simp [leftAt, h]
theorem getD_bytes {b : List Int} (h : ∀ x ∈ b, 0 ≤ x ∧ x ≤ 255) (j : Nat) : 0 ≤ b.getD j 0 ∧ b.getD j 0 ≤ 255 := by
  rw [List.getD_eq_getElem?_getD]
  cases hj : b[j]? with
  | none => simp
  | some x => exact h x (List.mem_of_getElem? hj)

set_option maxRecDepth 100000 in
set_option maxHeartbeats 4000000 in
theorem points1_seq (bx : Nat) (b : List Int) (v : Value) (W : World) (n₀ : Nat) (hn : n₀ ≤ bx) (hbx : W.cell? ⟨bx, 0, none⟩ = some v) (hf : W.frozen? ⟨bx, 0, none⟩ = false)
    (hR : Rd .u8 W v b) (hby : ∀ x ∈ b, 0 ≤ x ∧ x ≤ 255) (hne : ¬ blkOf v bx) (hbv : ∀ k, blkOf v k → k < W.heap.size) :
    SeqC Tryd.prog 62 #[.pointer (some ⟨bx, 0, none⟩)] ((pts b.length b).map ptArgs) n₀ (fun k => k = bx ∨ blkOf v k) W := by
  intro l J Jx c₀ hS hJc hJxc hJ hJx hY h0
  refine callsIn_of_wp Tryd.func62 rfl trivial ?_
  simp only [Tryd.ntmps62, List.size_toArray, List.length_cons, List.length_nil, Nat.reduceAdd, Nat.reduceSub, Array.replicate_succ, Array.replicate_zero, List.push_toArray, List.append_toArray, List.nil_append, List.cons_append]
  obtain ⟨X, hX⟩ : ∃ X, X = pts b.length b := ⟨_, rfl⟩
  rw [← hX] at hY ⊢
  gi_wp2
  gi_loopw [] (fun wr => ∃ (i f : Nat) (b' : List Int) (v' : Value) (c : Nat → Prop), Hid (X.drop i = pts f b' ∧ i ≤ X.length) ∧ b'.length ≤ f ∧ wr.cell? ⟨bx, 0, none⟩ = some v' ∧ wr.frozen? ⟨bx, 0, none⟩ = false ∧ Hid (Rd .u8 wr v' b') ∧ Hid (∀ x ∈ b', 0 ≤ x ∧ x ≤ 255) ∧ (∀ k, blkOf v' k → blkOf v k) ∧ W.heap.size ≤ wr.heap.size ∧ J i c wr ∧ (∀ k, (k = bx ∨ blkOf v k) → ¬ c k))
    (fun wr => leftAt bx wr)
  case atStart => exact ⟨0, b.length, b, v, c₀, ⟨by rw [hX]; rfl, Nat.zero_le _⟩, Nat.le_refl _, hbx, hf, hR, hby, fun k h => h, Nat.le_refl _, h0, hS⟩
  case round =>
    obtain ⟨i, f, b', v', c, hdrop, hle, hcell, hfr, hrd, hbytes, hblk, hWs, hj, hSc⟩ := hrel
    by_cases hb0 : b' = []
    · subst hb0
      obtain ⟨a, cc, rfl, hnc⟩ := hrd.out
      gi_wp2
      go_end0
      refine ⟨⟨_, rfl⟩, .inl ⟨c, ?_⟩⟩
      have h1 := hdrop.out.1
      have h2 := hdrop.out.2
      have h3 : X.drop i = [] := by rw [h1]; cases f <;> rfl
      rw [List.drop_eq_nil_iff] at h3
      rw [← hX, show X.length = i from by omega]
      exact hj
    · obtain ⟨bb, o, cc, rfl, hnc, hlt⟩ := hrd.out.parts hb0
      have hlen : 0 < b'.length := List.length_pos_iff.2 hb0
      obtain ⟨n, hnn⟩ : ∃ n, b'.length = n := ⟨_, rfl⟩
      have hbig : n ≤ 140737488355328 := by obtain ⟨_, _, _, _, h, _⟩ := hrd.out; omega
      have hX1 : Hid (∃ f', f = f' + 1 ∧ X.drop i = (if (utfTake b').2 = 0 then [((utfTake b').1, false)] else ((utfTake b').1, true) :: pts f' (b'.drop (utfTake b').2))) := by
        cases f with
        | zero => omega
        | succ f' => exact ⟨f', rfl, by rw [hdrop.out.1, pts, if_neg hb0]⟩
      have hcells : ∀ j, j < n → wr.cell? ⟨bb, o + j, none⟩ = some (.int .u8 (b'.getD j 0)) := by
        obtain ⟨a, c', e, h1, h2, h3⟩ := hrd.out
        rcases h3 with h3 | ⟨b1, o1, ha, hl1, hc1⟩
        · exact absurd h3 hb0
        · injection e with e1 e2 e3
          rw [← e1] at ha; injection ha with ha; injection ha with ha1 ha2
          subst ha1 ha2
          exact fun j hj => hc1 j (by omega)
      have hT := Lib.hid (utf_Take_at bb o n cc b' wr hnn hlt hbig (by omega) hcells (getD_bytes hbytes.out) (by omega))
      have hTle := utfTake_le b'
      generalize hr1 : (utfTake b').1 = r at hT
      generalize hn1 : (utfTake b').2 = m at hT hTle
      clear hcells
      rw [hnn] at hcell hTle hlen hnc
      have hag0 : ∀ w1, Below wr.heap.size wr w1 → J i c w1 := fun w1 hb1 => hJ i c wr w1 hj (Agree.of_below hb1)
      by_cases hm : m = 0
      · subst hm
        have hY1 : ∀ w1, Below wr.heap.size wr w1 → YieldAt Fence.wide 1 Tryd.prog l #[.int .i64 r, .bool false] w1 fun e A' =>
            (e = Ending.returned (Value.bool true) ∧ ∃ c', J (i + 1) c' A') ∨ (e = Ending.returned (Value.bool false) ∧ ∃ c', Jx i c' A') := fun w1 hb1 =>
          (hY i _ c w1 (by
            obtain ⟨f', _, h⟩ := hX1.out
            rw [if_pos hn1, hr1] at h
            have h2 := List.getElem?_drop (xs := X) (i := i) (j := 0)
            rw [h] at h2
            rw [List.getElem?_map, ← Nat.add_zero i, ← h2]; rfl) (hag0 w1 hb1)).mono (by
            rintro e A' (⟨rfl, c', h, _⟩ | ⟨rfl, c', h, _⟩)
            · exact .inl ⟨rfl, c', h⟩
            · exact .inr ⟨rfl, c', h⟩)
        have hXl : Hid (X.length = i + 1) := by
          obtain ⟨f', _, h⟩ := hX1.out
          rw [if_pos hn1, hr1] at h
          have h2 := congrArg List.length h
          rw [List.length_drop] at h2
          simp at h2
          exact (by omega : X.length = i + 1)
        gi_wp2_with (refine ⟨trivial, ?_⟩; gi_at_call 63; refine (callsIn_wide.2 hT.out).mono ?_; rintro e w1 ⟨rfl, hb1⟩; obtain ⟨fn, tmps, assign, body, hy, hR⟩ := hY1 w1 hb1)
        refine hR.mono ?_
        rintro e W' (⟨rfl, c', hj'⟩ | ⟨rfl, c', hjx'⟩)
        · gi_wp2
          refine bodyPost_ret (results_none rfl _ _ _) rfl ⟨⟨_, rfl⟩, .inl ⟨c', ?_⟩⟩
          rw [List.length_map, hXl.out]
          exact hj'
        · gi_wp2
          refine bodyPost_ret (results_none rfl _ _ _) rfl ⟨⟨_, rfl⟩, .inr ⟨i, c', ?_, hjx'⟩⟩
          rw [List.length_map, hXl.out]
          exact Nat.lt_succ_self _
      · obtain ⟨f', hf', hX2⟩ := hX1.out
        rw [if_neg (by rw [hn1]; exact hm), hr1, hn1] at hX2
        have hX3 : Hid (X.drop (i + 1) = pts f' (b'.drop m) ∧ i + 1 ≤ X.length) := by
          refine ⟨by rw [← List.drop_drop, hX2]; rfl, ?_⟩
          have h2 := congrArg List.length hX2
          rw [List.length_drop] at h2
          simp at h2
          omega
        have hY1 : ∀ w1, Below wr.heap.size wr w1 → YieldAt Fence.wide 1 Tryd.prog l #[.int .i64 r, .bool true] w1 fun e A' =>
            (e = Ending.returned (Value.bool true) ∧ ∃ c', J (i + 1) c' A' ∧ (∀ (k : Nat), c' k → c k ∨ w1.heap.size ≤ k) ∧ Agree (fun k => ¬c k) w1 A') ∨ (e = Ending.returned (Value.bool false) ∧ ∃ c', Jx i c' A') := fun w1 hb1 =>
          (hY i _ c w1 (by
            have h2 := List.getElem?_drop (xs := X) (i := i) (j := 0)
            rw [hX2] at h2
            rw [List.getElem?_map, ← Nat.add_zero i, ← h2]; rfl) (hag0 w1 hb1)).mono (by
            rintro e A' (⟨rfl, c', h⟩ | ⟨rfl, c', h, _⟩)
            · exact .inl ⟨rfl, c', h⟩
            · exact .inr ⟨rfl, c', h⟩)
        have hXl : Hid (i < X.length) := show i < X.length from by have := hX3.out.2; omega
        clear hX2
        have hmn : (m : Int) ≤ n := by omega
        have hm1 : 0 < m := by omega
        gi_wp2_with (refine ⟨trivial, ?_⟩; gi_at_call 63; refine (callsIn_wide.2 hT.out).mono ?_; rintro e w1 ⟨rfl, hb1⟩; obtain ⟨fn, tmps, assign, body, hy, hR⟩ := hY1 w1 hb1)
        refine hR.mono ?_
        rintro e W' (⟨rfl, c', hj', hc', hag'⟩ | ⟨rfl, c', hjx'⟩)
        · have hbxw : bx < wr.heap.size := World.block_lt_of_cell? wr _ hcell
          have hk1 : W'.cell? ⟨bx, 0, none⟩ = some (Value.slice (some { block := bb, off := o }) n cc) := hag'.cell (hSc bx (.inl rfl)) ((hb1.cell (p := ⟨bx, 0, none⟩) hbxw).trans hcell)
          have hk2 : W'.frozen? ⟨bx, 0, none⟩ = false := (hag'.frozen (p := ⟨bx, 0, none⟩) (hSc bx (.inl rfl)) (Nat.lt_of_lt_of_le hbxw hb1.size)).trans ((hb1.frozen (p := ⟨bx, 0, none⟩) hbxw).trans hfr)
          have hrd2 := ((hrd.out.below hb1).agree (fun k hk => by have := hSc k (.inr (hblk k hk)); exact this) hag')
          rw [hnn] at hrd2
          have hrd3 := Lib.hid (hrd2.drop_if m hTle)
          have hby3 := Lib.hid (show ∀ x ∈ b'.drop m, 0 ≤ x ∧ x ≤ 255 from fun x hx => hbytes.out x (List.mem_of_mem_drop hx))
          have hj3 := hj'
          have hlen3 : (b'.drop m).length = n - m := by rw [List.length_drop, hnn]
          gi_wp2
          go_roundw
          case rel =>
            have hsc : Agree (fun k => k ≠ bx) W' (W'.setCell ⟨bx, 0, none⟩ (Value.slice (if cc = m then some { block := bb, off := o } else some { block := bb, off := o + m }) (n - m) (cc - m))) := (Agree.refl _ _).setCell (.inl (by simp)) _
            refine ⟨i + 1, f', b'.drop m, _, c', hX3, by omega, World.cell?_setCell_same' _ _ _ (by rw [hk1]; rfl), by rw [World.frozen?_setCell]; exact hk2, hrd3.out.agree (fun k hk => ?_) hsc, hby3, ?_, ?_, hJ _ _ _ _ hj' (hsc.mono ?_), ?_⟩
            · rintro rfl
              have : blkOf (Value.slice (some { block := bb, off := o }) b'.length cc) k := by split at hk <;> exact hk
              exact hne (hblk _ this)
            · intro k hk
              exact hblk k (by split at hk <;> exact hk)
            · have := hb1.size; have := hag'.size; simp [World.setCell]; omega
            · rintro k _ (h | h) rfl
              · omega
              · rcases hc' _ h with h | h
                · exact hSc _ (.inl rfl) h
                · have := hb1.size; omega
            · intro k hk h
              rcases hc' _ h with h | h
              · exact hSc _ hk h
              · rcases hk with rfl | hk
                · have := hb1.size; omega
                · have := hb1.size; have := hbv k hk; omega
          case measure =>
            rw [leftAt_eq (World.cell?_setCell_same' _ _ _ (by rw [hk1]; rfl)), leftAt_eq hcell]
            omega
        · gi_wp2
          refine bodyPost_ret (results_none rfl _ _ _) rfl ⟨⟨_, rfl⟩, .inr ⟨i, c', ?_, hjx'⟩⟩
          have h := hXl.out
          simpa [← hX] using h

/-- utf.points: a closure over a box of its own. -/
theorem utf_points (a : Option Addr) (n c : Nat) (w : World) :
    Calls Tryd.prog 54 #[.slice a n c] w fun e w' => e = .returned (.func (.func 62) #[] #[.pointer (some ⟨w.heap.size, 0, none⟩)]) ∧ w' = w.alloc (.cells #[.slice a n c] 27) := by
  go_enter Tryd.func54, Tryd.ntmps54
  go_wp2
  go_ret
  exact ⟨rfl, rfl⟩
end Go.Proofs.YthllkfbegdmdkaaDoor
