/- utf.All. -/
import Derived.Test.YthllkfbegdmdkaaDoorAll
import Derived.Test.YthllkfbegdmdkaaDoorBox
namespace Go.Proofs.YthllkfbegdmdkaaDoor
open Go.RowKit
set_option linter.unusedSimpArgs false
set_option linter.unusedVariables false
attribute [local go_sem] Oper.semAt_some

/-- The code points of bytes, if they are some. -/
def utfAll (b : List Int) : Option (List Int) := if (pts b.length b).all (·.2) then some ((pts b.length b).map (·.1)) else none
theorem infoInt : (Tryd.prog.info? 3).map (fun i => (i.zero, i.size, i.bytes)) = some (some (.int .i64 0), 1, 8) := by kernel_rfl
theorem pts_len (f : Nat) : ∀ b : List Int, (pts f b).length ≤ f := by
  induction f with
  | zero => intro b; simp [pts]
  | succ f ih =>
    intro b
    unfold pts
    split
    · simp
    · split
      · simp
      · have := ih (b.drop (utfTake b).2)
        simp
        omega

set_option maxRecDepth 100000 in
set_option maxHeartbeats 4000000 in
theorem utf_All (b : List Int) (v : Value) (w : World) (hR : Rd .u8 w v b) (hby : ∀ x ∈ b, 0 ≤ x ∧ x ≤ 255) (hbv : ∀ k, blkOf v k → k < w.heap.size) (hlen : b.length ≤ 1048576) :
    Calls Tryd.prog 35 #[v] w fun e w' => ∃ u, e = .returned (.tuple #[u, .bool (utfAll b).isSome]) ∧ Own 3 .i64 w' w.heap.size u ((utfAll b).getD []) ∧ Below w.heap.size w w' := by
  refine (callsIn_wide (n := 3)).1 ?_
  refine callsIn_of_wp_marks Tryd.func35 rfl trivial ?_
  simp only [Tryd.ntmps35, List.size_toArray, List.length_cons, List.length_nil, Nat.reduceAdd, Nat.reduceSub, Array.replicate_succ, Array.replicate_zero, List.push_toArray, List.append_toArray, List.nil_append, List.cons_append]
  obtain ⟨a, c, rfl⟩ := hR.len
  gi_wp2_with (refine ⟨trivial, ?_⟩; gi_at_call 54; refine (callsIn_wide.2 (utf_points _ _ _ _)).mono ?_; rintro e w1 ⟨rfl, rfl⟩)
  obtain ⟨s, hs⟩ : ∃ s, w.heap.size = s := ⟨_, rfl⟩
  obtain ⟨X, hX⟩ : ∃ X, X = pts b.length b := ⟨_, rfl⟩
  have hXl := Lib.hid (show X.length ≤ 1048576 by rw [hX]; exact Nat.le_trans (pts_len _ _) hlen)
  have hUA : Hid (utfAll b = if X.all (·.2) then some (X.map (·.1)) else none) := Lib.hid (by rw [hX]; rfl)
  obtain ⟨W0, hW0⟩ : ∃ W0, ((((w.alloc (Obj.cells #[Value.slice none 0 0] 65)).alloc (Obj.cells #[Value.bool false] 4)).alloc (Obj.cells #[Value.slice none 0 0] 65)).alloc (Obj.cells #[Value.slice a b.length c] 27)) = W0 := ⟨_, rfl⟩
  rw [hW0]
  have hz0 : W0.heap.size = s + 4 := by rw [← hW0]; simp [hs]
  have hB0 : Below s w W0 := by rw [← hW0, ← hs]; exact below_alloc (below_alloc (below_alloc (below_alloc (Below.refl _ _) _) _) _) _
  have hb0 : Boxed W0 s 65 (.slice none 0 0) := by
    rw [← hW0, ← hs]; exact ((Boxed.new w _ _).alloc _).alloc _ |>.alloc _
  have hb1 : Boxed W0 (s + 1) 4 (.bool false) := by
    rw [← hW0]; have h := ((Boxed.new (w.alloc (Obj.cells #[Value.slice none 0 0] 65)) 4 (.bool false)).alloc (Obj.cells #[Value.slice none 0 0] 65)).alloc (Obj.cells #[Value.slice a b.length c] 27); simpa [hs] using h
  have hb2 : Boxed W0 (s + 2) 65 (.slice none 0 0) := by
    rw [← hW0]; have h := (Boxed.new ((w.alloc (Obj.cells #[Value.slice none 0 0] 65)).alloc (Obj.cells #[Value.bool false] 4)) 65 (.slice none 0 0)).alloc (Obj.cells #[Value.slice a b.length c] 27); simpa [hs] using h
  have hb3 : Boxed W0 (s + 3) 27 (.slice a b.length c) := by
    rw [← hW0]; have h := (Boxed.new (((w.alloc (Obj.cells #[Value.slice none 0 0] 65)).alloc (Obj.cells #[Value.bool false] 4)).alloc (Obj.cells #[Value.slice none 0 0] 65)) 27 (.slice a b.length c)); simpa [hs] using h
  clear hW0
  have hsq : ∀ o, SeqC Tryd.prog 62 #[.pointer (some ⟨s + 3, 0, none⟩)] (X.map ptArgs) s (fun k => k = s + 3 ∨ blkOf (.slice a b.length c) k) ((W0.alloc (.deferred (some []))).alloc (.loop o)) := by
    intro o
    rw [hX]
    refine points1_seq (s + 3) b _ _ s (by omega) (((hb3.alloc _).alloc _).cell) (((hb3.alloc _).alloc _).frozen) ?_ hby ?_ ?_
    · exact hR.below (below_alloc (below_alloc (by rw [hs]; exact hB0) _) _)
    · intro h; have := hbv _ h; omega
    · intro k h; have := hbv _ h; simp; omega
  rw [hs]
  clear hX
  refine wpIn_range (gf := 62) (lb := #[.pointer (some ⟨s + 3, 0, none⟩)]) (ys := X.map ptArgs) (n₀ := s) (S₀ := fun k => k = s + 3 ∨ blkOf (.slice a b.length c) k) rfl (Go.Proofs.enters_of Tryd.func62 (by kernel_rfl) rfl) (by omega) ?hS hsq ?hps
    (fun i c A => ∃ u, (∃ ua uc, u = .slice ua i uc) ∧ Boxed A s 65 (.slice none 0 0) ∧ Boxed A (s + 1) 4 (.bool false) ∧ Boxed A (s + 2) 65 u ∧ A.ownsRow s 3 1 u i ((X.take i).map (fun p => .int .i64 p.1)) ∧ (X.take i).all (·.2) ∧ i ≤ X.length ∧ Below s w A ∧ (∀ k, c k ↔ k = s ∨ k = s + 1 ∨ k = s + 2 ∨ u.ownBlock = some k))
    (fun i d c A => d = .ret ∧ Boxed A s 65 (.slice none 0 0) ∧ Boxed A (s + 1) 4 (.bool false) ∧ X.all (·.2) = false ∧ Below s w A ∧ (∀ k, c k → k < A.heap.size) ∧ c s ∧ c (s + 1))
    (fun k => k = s ∨ k = s + 1 ∨ k = s + 2) ?hSc ?hIc ?hIxc ?hI ?hIx ?h0 ?hround ?hdone ?hstop
  case hS => rintro k (rfl | h); · omega
             · have := hbv _ h; omega
  case hps => intro y hy; obtain ⟨p, _, rfl⟩ := List.mem_map.1 hy; rfl
  case hSc => rintro k (rfl | h) h2; · omega
              · have := hbv _ h; omega
  case hIc =>
    rintro i c A ⟨u, hu, h0, h1, h2, h3, h4, h5, h6, h7⟩ k hk
    rcases (h7 k).1 hk with rfl | rfl | rfl | hk
    · exact h0.lt
    · exact h1.lt
    · exact h2.lt
    · exact (h3.lt k hk).2
  case hIxc => rintro i d c A ⟨_, _, _, _, _, h, _⟩ k hk; exact h k hk
  case hI =>
    rintro i c A A' ⟨u, hu, h0, h1, h2, h3, h4, h5, h6, h7⟩ hag
    refine ⟨u, hu, boxed_agree h0 (.inr ((h7 _).2 (.inl rfl))) hag, boxed_agree h1 (.inr ((h7 _).2 (.inr (.inl rfl)))) hag, boxed_agree h2 (.inr ((h7 _).2 (.inr (.inr (.inl rfl))))) hag, ownsRow_agree h3 (fun k hk => .inr ((h7 k).2 (.inr (.inr (.inr hk))))) hag, h4, h5, Agree.below h6 (by have := h6.size; omega) hag (fun k hk => .inl hk), h7⟩
  case hIx =>
    rintro i d c A A' ⟨h0, h1, h2, h3, h4, h5, h6, h7⟩ hag
    exact ⟨h0, boxed_agree h1 (.inr h6) hag, boxed_agree h2 (.inr h7) hag, h3, Agree.below h4 (by have := h4.size; omega) hag (fun k hk => .inl hk), fun k hk => Nat.lt_of_lt_of_le (h5 k hk) hag.size, h6, h7⟩
  case h0 => exact ⟨_, ⟨_, _, rfl⟩, hb0, hb1, hb2, World.ownsRow_nil _ _ _ _, rfl, Nat.zero_le _, hB0, fun k => by simp [Value.ownBlock]⟩
  case hround =>
    intro l i y c A K hy hi hsz hk
    rw [List.getElem?_map] at hy
    obtain ⟨⟨r, ok⟩, hp, rfl⟩ := Option.map_eq_some_iff.1 hy
    have hil : i < X.length := (List.getElem?_eq_some_iff.1 hp).1
    have htake : X.take (i + 1) = X.take i ++ [(r, ok)] := by rw [List.take_add_one, hp]; rfl
    simp only [ptArgs]
    gi_wp2
    refine hk _ A (Agree.refl _ _) hi ?_
    intro A2 hs2 hag2 hi2
    clear hi hs2 hag2
    obtain ⟨u, ⟨ua, uc, rfl⟩, h0, h1, h2, h3, h4, h5, h6, h7⟩ := hi2
    have c2 : A2.cell? ⟨s + 1 + 1, 0, none⟩ = _ := h2.cell
    have f2 : A2.frozen? ⟨s + 1 + 1, 0, none⟩ = _ := h2.frozen
    cases ok
    · have c0 := h0.cell
      have f0 := h0.frozen
      have c1 := h1.cell
      have f1 := h1.frozen
      gi_wp2
      have e1 : Agree (fun k => k ≠ s) A2 (A2.setCell ⟨s, 0, none⟩ (Value.slice none 0 0)) := (Agree.refl _ _).setCell (.inl (fun h => h rfl)) _
      have e2 : Agree (fun k => k ≠ s + 1) (A2.setCell ⟨s, 0, none⟩ (Value.slice none 0 0)) ((A2.setCell ⟨s, 0, none⟩ (Value.slice none 0 0)).setCell ⟨s + 1, 0, none⟩ (Value.bool false)) := (Agree.refl _ _).setCell (.inl (fun h => h rfl)) _
      have q0 := boxed_agree (h0.set (Value.slice none 0 0)) (by omega) e2
      have q1 := (boxed_agree h1 (by omega) e1).set (.bool false)
      have e3 : Agree (fun k => ¬ (k = s ∨ k = s + 1)) A2 ((A2.setCell ⟨s, 0, none⟩ (Value.slice none 0 0)).setCell ⟨s + 1, 0, none⟩ (Value.bool false)) := (e1.mono (fun k _ h e => h (.inl e))).trans (e2.mono (fun k _ h e => h (.inr e)))
      refine ⟨fun k => k = s ∨ k = s + 1, ⟨rfl, q0, q1, ?_, Agree.below h6 (by have := h6.size; omega) e3 (fun k hk h => by omega), ?_, .inl rfl, .inr rfl⟩, ?_, e3.mono (fun k _ h e => h ((h7 k).2 (e.elim .inl (fun e => .inr (.inl e)))))⟩
      · rw [List.all_eq_false]
        exact ⟨(r, false), List.mem_of_getElem? hp, by simp⟩
      · rintro k (rfl | rfl)
        · exact q0.lt
        · exact q1.lt
      · rintro k (rfl | rfl)
        · exact .inl ((h7 _).2 (.inl rfl))
        · exact .inl ((h7 _).2 (.inr (.inl rfl)))
    · obtain ⟨i0, hi0, hz0', hz1, hz2⟩ := info_parts infoInt
      have hbig : i + 1 ≤ 1048576 := Nat.le_trans hil hXl.out
      have hsz6 := h6.size
      gi_wp2_with (gi_at_builtin; (refine wpListIn_append_lies _ rfl _ _ 65 rfl s 3 i0 _ 1 8 Tryd.underlying65 hi0 hz0' hz1 hz2 rfl (by decide) _ i _ rfl (h3.alloc _) ⟨A2.heap.size, 0, none⟩ 1 1 [.int .i64 r] rfl rfl (World.news_of_block (heap_alloc_new A2 _)) (by simp [Value.oneCell']) (by omega) (by unfold maxLen; omega) (by omega) (by simp; omega) (A2.heap.size + 1) (by simp) ?_; intro g cap w1 hown' hgrow hat hglt); obtain ⟨hv1, hv2, hr2, hA⟩ := box_appended h2 (by decide) h3 (by omega) hown' hgrow; have c2 : w1.cell? ⟨s + 1 + 1, 0, none⟩ = _ := hv1.cell; have f2 : w1.frozen? ⟨s + 1 + 1, 0, none⟩ = _ := hv1.frozen)
      have hglt' : g < (w1.setCell ⟨s + 2, 0, none⟩ (.slice (some ⟨g, 0, none⟩) (i + 1) cap)).heap.size := (hr2.lt g rfl).2
      have hSS := hA (fun k => ¬ c k) (fun h => h ((h7 _).2 (.inr (.inr (.inl rfl))))) (fun k hk h => h ((h7 k).2 (.inr (.inr (.inr hk)))))
      have hSb := hA (fun k => k ≠ s + 2 ∧ (Value.slice ua i uc).ownBlock ≠ some k) (fun h => h.1 rfl) (fun k hk h => h.2 hk)
      have hne : ∀ (B : Nat) (t : TypeId) (u : Value), Boxed A2 B t u → t ≠ 3 → (Value.slice ua i uc).ownBlock ≠ some B := fun B t u hb ht => (hb.not_row ht h3).symm
      refine ⟨fun k => k = s ∨ k = s + 1 ∨ k = s + 2 ∨ k = g, ⟨_, ⟨_, _, rfl⟩, boxed_agree h0 ⟨by omega, hne _ _ _ h0 (by decide)⟩ hSb, boxed_agree h1 ⟨by omega, hne _ _ _ h1 (by decide)⟩ hSb, hv2, ?_, ?_, hil, ?_, fun k => by simp [Value.ownBlock, eq_comm]⟩, ?_, hSS⟩
      · rw [htake, List.map_append]; exact hr2
      · rw [htake, List.all_append, h4]; rfl
      · exact Agree.below h6 (by omega) (hA (fun k => k < s) (fun h => by omega) (fun k hk h => by have := (h3.lt k hk).1; omega)) (fun k hk => hk)
      · rintro k (rfl | rfl | rfl | rfl)
        · exact .inl ((h7 _).2 (.inl rfl))
        · exact .inl ((h7 _).2 (.inr (.inl rfl)))
        · exact .inl ((h7 _).2 (.inr (.inr (.inl rfl))))
        · rcases hat with hat | hat
          · exact .inl ((h7 _).2 (.inr (.inr (.inr hat))))
          · exact .inr (by omega)
  case hdone =>
    rintro c1 W ⟨u, ⟨ua, uc, rfl⟩, h0, h1, h2, h3, h4, h5, h6, h7⟩ hK hcn
    rw [List.length_map] at h2 h3 h4
    rw [List.take_length] at h3 h4
    have c2 : W.cell? ⟨s + 1 + 1, 0, none⟩ = _ := h2.cell
    have c0 := h0.cell
    have f0 := h0.frozen
    have c1 := h1.cell
    have f1 := h1.frozen
    gi_wp2
    have hK' : ((W.setCell ⟨s, 0, none⟩ (Value.slice ua X.length uc)).setCell ⟨s + 1, 0, none⟩ (Value.bool true)).heap[W0.heap.size]? = some (.deferred (some [])) := by
      rw [Below.heap_setCell _ _ _ _ (by simp; omega), Below.heap_setCell _ _ _ _ (by simp; omega)]; exact hK
    refine ⟨by simp, .inl ⟨_, _, rfl, run_takeDeferred hK', ?_⟩⟩
    have e1 : Agree (fun k => k ≠ s) W (W.setCell ⟨s, 0, none⟩ (Value.slice ua X.length uc)) := (Agree.refl _ _).setCell (.inl (fun h => h rfl)) _
    have e2 : Agree (fun k => k ≠ s + 1) (W.setCell ⟨s, 0, none⟩ (Value.slice ua X.length uc)) ((W.setCell ⟨s, 0, none⟩ (Value.slice ua X.length uc)).setCell ⟨s + 1, 0, none⟩ (Value.bool true)) := (Agree.refl _ _).setCell (.inl (fun h => h rfl)) _
    have q0 := boxed_agree (h0.set (Value.slice ua X.length uc)) (by omega) e2
    have q1 := (boxed_agree h1 (by omega) e1).set (.bool true)
    have e3 := (e1.mono (T := fun k => k ≠ s ∧ k ≠ s + 1) (fun k _ h => h.1)).trans (e2.mono (T := fun k => k ≠ s ∧ k ≠ s + 1) (fun k _ h => h.2))
    have hne : ∀ (B : Nat) (t : TypeId) (u : Value), Boxed W B t u → t ≠ 3 → (Value.slice ua X.length uc).ownBlock ≠ some B := fun B t u hb ht => (hb.not_row ht h3).symm
    have r3 := ownsRow_agree h3 (fun k hk => ⟨fun e => hne _ _ _ h0 (by decide) (e ▸ hk), fun e => hne _ _ _ h1 (by decide) (e ▸ hk)⟩) e3
    have hB2 := Agree.below h6 (by have := h6.size; omega) e3 (fun k hk => ⟨by omega, by omega⟩)
    generalize ((W.setCell ⟨s, 0, none⟩ (Value.slice ua X.length uc)).setCell ⟨s + 1, 0, none⟩ (Value.bool true)) = WF at hK' q0 q1 r3 hB2 ⊢
    have e4 : Agree (fun k => k ≠ W0.heap.size) WF (WF.putObj W0.heap.size (.deferred none)) := (Agree.refl _ _).putObj (fun h => h rfl) _
    have p0 := (boxed_agree q0 (by omega) e4).cell
    have p1 := (boxed_agree q1 (by omega) e4).cell
    have p3 := ownsRow_agree r3 (fun k hk e => by
      subst e
      rcases r3.2 with ⟨h, _⟩ | ⟨g, cap, cur, h, _, hg, _⟩
      · rw [h] at hk; cases hk
      · rw [h] at hk; injection hk with hk; simp only at hk; rw [hk] at hg; rw [hg] at hK'; cases hK') e4
    have p4 := Agree.below hB2 (by have := hB2.size; omega) e4 (fun k hk => by have := hB0.size; omega)
    generalize WF.putObj W0.heap.size (.deferred none) = WG at p0 p1 p3 p4 ⊢
    refine ⟨.tuple #[.slice ua X.length uc, .bool true], by simp [results, Tryd.results35, go_sem, p0, p1], ?_⟩
    rw [hUA.out, if_pos h4]
    refine ⟨_, rfl, ⟨?_, ?_⟩, ?_⟩
    · have := hXl.out; simp; omega
    · rw [hs]; simpa [List.map_map, Function.comp_def] using p3
    · rw [hs]; exact p4
  case hstop =>
    rintro i d c1 W hi ⟨rfl, h0, h1, h2, h3, h4, h5, h6⟩ hK hcn
    gi_wp2
    refine ⟨by simp, .inl ⟨_, _, rfl, run_takeDeferred hK, ?_⟩⟩
    have e4 : Agree (fun k => k ≠ W0.heap.size) W (W.putObj W0.heap.size (.deferred none)) := (Agree.refl _ _).putObj (fun h => h rfl) _
    have p0 := (boxed_agree h0 (by omega) e4).cell
    have p1 := (boxed_agree h1 (by omega) e4).cell
    have p4 := Agree.below h3 (by have := h3.size; omega) e4 (fun k hk => by have := hB0.size; omega)
    generalize W.putObj W0.heap.size (.deferred none) = WG at p0 p1 p4 ⊢
    refine ⟨.tuple #[.slice none 0 0, .bool false], by simp [results, Tryd.results35, go_sem, p0, p1], ?_⟩
    rw [hUA.out, if_neg (by rw [h2]; simp)]
    refine ⟨_, rfl, ⟨by simp, World.ownsRow_nil _ _ _ _⟩, ?_⟩
    rw [hs]; exact p4
end Go.Proofs.YthllkfbegdmdkaaDoor
