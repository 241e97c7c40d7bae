/- wire.Num. -/
import Derived.Test.YthllkfbegdmdkaaDoorPut
namespace Go.Proofs.YthllkfbegdmdkaaDoor
open Go.RowKit
set_option linter.unusedSimpArgs false
set_option linter.unusedVariables false
set_option maxRecDepth 100000
set_option maxHeartbeats 2000000

theorem infoInts : (Tryd.prog.info? 65).map (fun i => (i.zero, i.size, i.bytes)) = some (some (.slice none 0 0), 1, 24) := by kernel_rfl
theorem build_seq (p f : Int) (w : World) : (Instr.build 37 #[(0, .int .i64 1), (1, .int .u8 p), (4, .int .u8 f)]).run Tryd.prog w = .ok (.agg #[.int .i64 1, .int .u8 p, .slice none 0 0, .string ⟨#[]⟩, .int .u8 f, .string ⟨#[]⟩]) w := by kernel_rfl
theorem row_setCell {w : World} {g : Nat} {cs : Array Value} {t : TypeId} {fr : Nat × Nat} (h : w.heap[g]? = some (.cells cs t fr)) (j : Nat) (v : Value) : (w.setCell ⟨g, j, none⟩ v).heap[g]? = some (.cells (cs.setIfInBounds j v) t fr) := by
  have hlt := (Array.getElem?_eq_some_iff.1 h).1
  simp [World.setCell, Array.getElem?_modify, h]
theorem grown_two {wr w3 : World} {a b : Obj} {row : Option Nat} (h : ((wr.alloc a).alloc b).grownBy w3 row) {k : Nat} (hk : k < wr.heap.size) (hne : row ≠ some k) : w3.heap[k]? = wr.heap[k]? :=
  (h.block k (by simp; omega) (fun e => hne e.symm)).trans ((below_alloc (below_alloc (Below.refl wr.heap.size wr) a) b).block k hk)
def RowsAt (w : World) (ns : List Int) (rows : List Value) : Prop := ∀ (j : Nat) (n : Int) (u : Value), ns[j]? = some n → rows[j]? = some u → ∃ b : Nat, u = Value.slice (some ⟨b, 0, none⟩) 1 1 ∧ Boxed w b 3 (.int .i64 n)
theorem rowsAt_agree {S : Nat → Prop} {w w' : World} {ns : List Int} {rows : List Value} (h : RowsAt w ns rows) (hag : Agree S w w') (hS : ∀ b x, Boxed w b 3 x → S b) : RowsAt w' ns rows := by
  intro j n u hn hu
  obtain ⟨b, e, hb⟩ := h j n u hn hu
  exact ⟨b, e, boxed_agree hb (hS b _ hb) hag⟩
def numSeq (p f : UInt8) (ns : List Int) : SeqS := ⟨1, p, ns.map fun n => [n], [], f, []⟩
theorem wire_Num (p f : UInt8) (ns : List Int) (v : Value) (w : World) (hR : Rd .i64 w v ns) (hl : ns.length ≤ 1000) :
    Calls Tryd.prog 18 #[.int .u8 p.toNat, .int .u8 f.toNat, v] w fun e w' => ∃ pv, e = .returned ((numSeq p f ns).v pv) ∧ RdRows w' pv (numSeq p f ns).params ∧ Below w.heap.size w w' := by
  obtain ⟨a, c, rfl⟩ := hR.lenp
  obtain ⟨n, hn⟩ : ∃ n, ns.length = n := ⟨_, rfl⟩
  obtain ⟨i0, hi0, hz0, hz1, hz2⟩ := info_parts infoInts
  have HR := Lib.hid hR
  have HN := Lib.hid hn
  have hn1 : n ≤ 1000 := by omega
  clear hR hl
  unfold numSeq SeqS.v
  rw [hn]
  clear hn
  generalize (p.toNat : Int) = P
  generalize (f.toNat : Int) = F
  obtain ⟨st, hst⟩ : ∃ st, w.heap.size = st := ⟨_, rfl⟩
  go_enter Tryd.func18, Tryd.ntmps18
  go_wp2_with (first
    | ((with_reducible apply wpList_build 37); exact rfl; exact rfl; apply build_seq; case hp => exact rfl)
    | ((with_reducible apply wpList_store_new 37); exact rfl; exact rfl; exact rfl; exact rfl; exact rfl; kernel_rfl; rfl; rfl))
  go_loopg [15] (n + 1) (fun g s15 wr => ∃ (i : Nat) (ua : Option Addr) (uc : Nat) (rows : List Value), s15 = .int .i64 i ∧ i ≤ n ∧ n - i < g ∧
      wr.heap[st + 1]? = some (.cells #[.int .i64 1, .int .u8 P, .slice ua i uc, .string ⟨#[]⟩, .int .u8 F, .string ⟨#[]⟩] 37) ∧
      wr.heap[st]? = some (.cells #[.int .i64 0, .int .u8 0, .slice none 0 0, .string ⟨#[]⟩, .int .u8 0, .string ⟨#[]⟩] 37) ∧
      wr.ownsRow (st + 2) 65 1 (.slice ua i uc) i rows ∧ RowsAt wr ns rows ∧ Below st w wr)
  case atStart =>
    refine ⟨0, none, 0, [], rfl, by omega, by omega, ?_, ?_, World.ownsRow_nil _ _ _ _, fun j n u _ h => by simp at h, ?_⟩
    · rw [← hst]; have h := heap_alloc_new (w.alloc (Obj.cells #[Value.int IntKind.i64 0, Value.int IntKind.u8 0, Value.slice none 0 0, Value.string { data := #[] }, Value.int IntKind.u8 0, Value.string { data := #[] }] 37)) (Obj.cells #[Value.int IntKind.i64 1, Value.int IntKind.u8 P, Value.slice none 0 0, Value.string { data := #[] }, Value.int IntKind.u8 F, Value.string { data := #[] }] 37)
      rwa [World.size_alloc] at h
    · rw [← hst]; exact (Below.heap_alloc _ _ _ (by simp)).trans (heap_alloc_new w _)
    · rw [← hst]; exact below_alloc (below_alloc (Below.refl _ _) _) _
  case round =>
    obtain ⟨i, ua, uc, rows, rfl, hi, hg, hs1, hs0, hown, hrows, hb⟩ := hrel
    have hsz : st + 2 ≤ wr.heap.size := by have := (Array.getElem?_eq_some_iff.1 hs1).1; omega
    by_cases hin : i < n
    · have hinI : (i : Int) < n := by omega
      obtain ⟨x0, hx⟩ : ∃ x, ns[i]? = some x := ⟨_, List.getElem?_eq_getElem (by rw [HN.out]; exact hin)⟩
      have hR1 := HR.out
      rw [HN.out] at hR1
      obtain ⟨b, o, rfl, hlt, hcell⟩ := hR1.at (j := i) (by rw [HN.out]; exact hin)
      have hxd : ns.getD i 0 = x0 := by rw [List.getD_eq_getElem?_getD, hx]; rfl
      rw [hxd] at hcell
      have hcell' : wr.cell? ⟨b, o + i, none⟩ = some (.int .i64 x0) := (hb.cell (p := ⟨b, o + i, none⟩) (by show b < st; omega)).trans hcell
      have k2 : wr.cell? ⟨st + 1, 2, none⟩ = some (.slice ua i uc) := by rw [cell_of_row _ _ _ _ _ _ hs1]; rfl
      have f2 : wr.frozen? ⟨st + 1, 2, none⟩ = false := by simp [World.frozen?, hs1]
      have HX := Lib.hid hx
      have hne1 : (Value.slice ua i uc).ownBlock ≠ some (st + 1) := fun h => by have := (hown.lt _ h).1; omega
      have hne0 : (Value.slice ua i uc).ownBlock ≠ some st := fun h => by have := (hown.lt _ h).1; omega
      clear hR1 hcell hxd hx
      go_wp2_with (first | (at_builtin; refine wpList_append_lies _ rfl _ _ 35 rfl (st + 2) 65 i0 _ 1 24 Tryd.underlying35 hi0 hz0 hz1 hz2 rfl (by decide) _ i _ rfl ((hown.alloc _).alloc _) ⟨wr.heap.size + 1, 0, none⟩ 1 1 [.slice (some ⟨wr.heap.size, 0, none⟩) 1 1] rfl rfl (World.news_of_block (by have h := heap_alloc_new (wr.alloc (Obj.cells #[Value.int .i64 x0] 3)) (Obj.cells #[Value.slice (some ⟨wr.heap.size, 0, none⟩) 1 1] 65); rwa [World.size_alloc] at h)) (by simp [Value.oneCell']) (by omega) (by unfold maxLen; omega) (by omega) (by simp; omega) (wr.heap.size + 2) (by simp) ?_; intro g cap w3 hown' hgrow hat hglt; have t1 := (grown_two hgrow (k := st + 1) (by omega) hne1).trans hs1; have c1 : w3.cell? ⟨st + 1, 2, none⟩ = some (.slice ua i uc) := (by rw [cell_of_row _ _ _ _ _ _ t1]; rfl); have d1 : w3.frozen? ⟨st + 1, 2, none⟩ = false := (by simp [World.frozen?, t1])))
      have t0 := (grown_two hgrow (k := st) (by omega) hne0).trans hs0
      have hs1' := row_setCell t1 2 (.slice (some ⟨g, 0, none⟩) (i + 1) cap)
      go_roundg (n - i)
      case measure => omega
      case rel =>
        have hgst : st + 2 ≤ g := (hown'.lt g rfl).1
        have hag : Agree (fun k => k ≠ st + 1) w3 (w3.setCell ⟨st + 1, 2, none⟩ (.slice (some ⟨g, 0, none⟩) (i + 1) cap)) := (Agree.refl _ _).setCell (.inl (fun h => h rfl)) _
        have lift : ∀ (b : Nat) (x : Value), Boxed ((wr.alloc (Obj.cells #[Value.int .i64 x0] 3)).alloc (Obj.cells #[Value.slice (some ⟨wr.heap.size, 0, none⟩) 1 1] 65)) b 3 x → Boxed (w3.setCell ⟨st + 1, 2, none⟩ (.slice (some ⟨g, 0, none⟩) (i + 1) cap)) b 3 x := by
          intro b x hbx
          have h3 := hbx.kept hgrow (hbx.not_row (by decide) ((hown.alloc _).alloc _))
          refine boxed_agree h3 ?_ hag
          rintro rfl
          rw [Boxed, t1] at h3
          cases h3
        refine ⟨i + 1, _, cap, rows ++ [.slice (some ⟨wr.heap.size, 0, none⟩) 1 1], by simp, by omega, by omega, hs1', ?_, ?_, ?_, ?_⟩
        · exact (Below.heap_setCell _ _ _ _ (by show st ≠ st + 1; omega)).trans t0
        · exact ownsRow_agree hown' (fun k hk => by cases hk; show g ≠ st + 1; omega) hag
        · intro j m u hm hu
          by_cases hj : j < i
          · have hlr : rows.length = i := by have := hown.1; simpa using this
            rw [List.getElem?_append_left (by omega)] at hu
            obtain ⟨b, e, hbx⟩ := hrows j m u hm hu
            exact ⟨b, e, lift b _ ((hbx.alloc _).alloc _)⟩
          · have hlr : rows.length = i := by have := hown.1; simpa using this
            have hji : j = i := by
              have := (List.getElem?_eq_some_iff.1 hu).1
              rw [List.length_append] at this
              simp at this
              omega
            subst hji
            rw [HX.out] at hm
            injection hm with hm
            subst hm
            rw [List.getElem?_append_right (by omega), hlr, Nat.sub_self] at hu
            simp at hu
            exact ⟨wr.heap.size, hu.symm, lift _ _ ((Boxed.new wr _ _).alloc _)⟩
        · exact ((((hb.alloc (by omega) _).alloc (by simp; omega) _).grown hgrow (by simp; omega) (fun j hj => by have := (hown.lt j hj).1; omega)).setCell (by show st ≤ st + 1; omega) _)
    · obtain rfl : i = n := by omega
      have hld : (Instr.loadAt 37 (.pointer (some ⟨st + 1, 0, none⟩))).run Tryd.prog wr = _ := run_load_row hs1 Tryd.underlying37 rfl (by kernel_rfl)
      have hst2 : (Instr.storeAt 37 (.pointer (some ⟨st, 0, none⟩)) (.agg #[.int .i64 1, .int .u8 P, .slice ua i uc, .string ⟨#[]⟩, .int .u8 F, .string ⟨#[]⟩])).run Tryd.prog wr = _ := run_store_row hs0 (by kernel_rfl) rfl (by simp [Value.oneCell'])
      go_wp2_with (first
        | ((with_reducible apply wpList_load_run 37); exact rfl; exact rfl; exact hld)
        | ((with_reducible apply wpList_store_run 37); exact rfl; exact rfl; exact hst2))
      have hz := setRow_heap wr st _ #[.int .i64 1, .int .u8 P, .slice ua i uc, .string ⟨#[]⟩, .int .u8 F, .string ⟨#[]⟩] _ _ hs0
      refine bodyPost_ret (results_cell_row Tryd.results18 _ _ st _ _ (0, 0) _ rfl hz Tryd.underlying37 rfl (by kernel_rfl)) rfl ?_
      have hag : Agree (fun k => k ≠ st) wr (wr.setRow st #[.int .i64 1, .int .u8 P, .slice ua i uc, .string ⟨#[]⟩, .int .u8 F, .string ⟨#[]⟩]) := (Agree.refl _ _).setRow (fun h => h rfl) _
      refine ⟨.slice ua i uc, rfl, ?_, ?_⟩
      · have hm : (ns.map fun n => [n]).length = i := by rw [List.length_map]; exact HN.out
        have hlr : rows.length = i := by have := hown.1; simpa using this
        rcases hown.2 with ⟨hv, h0⟩ | ⟨g, cap, cur, hv, hgb, hgh, hcap, hmx, hszz, htake⟩
        · injection hv with e1 e2 e3
          have hnil : (ns.map fun n => [n]) = [] := List.eq_nil_of_length_eq_zero (by rw [hm, h0])
          rw [hnil, e1, h0, e3]
          exact RdRows.nil _
        · injection hv with e1 e2 e3
          subst e1 e3
          refine ⟨_, uc, by rw [hm], by omega, by omega, .inr ⟨g, 0, rfl, ?_, ?_⟩⟩
          · have := (Array.getElem?_eq_some_iff.1 hgh).1
            have := hag.size
            omega
          · intro j l hj
            rw [List.getElem?_map] at hj
            cases hq : ns[j]? with
            | none => rw [hq] at hj; cases hj
            | some x =>
              rw [hq] at hj; simp at hj; subst hj
              have hjl := (List.getElem?_eq_some_iff.1 hq).1
              have hji : j < i := by have := HN.out; omega
              obtain ⟨u, hu⟩ : ∃ u, rows[j]? = some u := ⟨_, List.getElem?_eq_getElem (by omega)⟩
              obtain ⟨b, rfl, hbx⟩ := hrows j x u hq hu
              have hcu : cur.toList[j]? = some (.slice (some ⟨b, 0, none⟩) 1 1) := by
                have h1 : (cur.toList.take (i * 1))[j]? = some (.slice (some ⟨b, 0, none⟩) 1 1) := by rw [htake]; exact hu
                rwa [List.getElem?_take_of_lt (by omega)] at h1
              have hgst : g ≠ st := by omega
              have hgh' := (hag.block g (Array.getElem?_eq_some_iff.1 hgh).1 hgst).trans hgh
              refine ⟨.slice (some ⟨b, 0, none⟩) 1 1, ?_, ?_⟩
              · rw [Nat.zero_add, cell_of_row _ _ _ _ _ _ hgh']
                simpa using hcu
              · have hbs : b ≠ st := by rintro rfl; rw [Boxed, hs0] at hbx; cases hbx
                have hbx' := boxed_agree hbx hbs hag
                refine ⟨_, 1, rfl, by simp, by simp, .inr ⟨b, 0, rfl, hbx'.lt, fun k hk => ?_⟩⟩
                have : k = 0 := by simp at hk; omega
                subst this
                exact hbx'.cell
      · rw [hst]
        exact Agree.below hb (by omega) hag (fun k hk => by omega)
end Go.Proofs.YthllkfbegdmdkaaDoor
