/- wire.Take. -/
import Derived.Test.YthllkfbegdmdkaaDoorRead
import Derived.Test.YthllkfbegdmdkaaDoorPut
import Derived.Deep.MidRow
namespace Go.Proofs.YthllkfbegdmdkaaDoor
open Go.RowKit
set_option linter.unusedSimpArgs false
set_option linter.unusedVariables false
set_option maxRecDepth 100000
set_option maxHeartbeats 8000000
attribute [local go_sem] Oper.semAt_some

theorem results_row_tmp2 {P : Program} {fn : Func} {p u v : Tmp} {ty : TypeId} (h : fn.results = #[.cell p ty, .tmp u, .tmp v]) (tmps : Array Value) (w : World) (g : Nat) (t : TypeId) (cs : Array Value) (fr : Nat × Nat) (d : TypeDesc)
    (hp : tmps.getD p undef = .pointer (some ⟨g, 0, none⟩)) (hg : w.heap[g]? = some (.cells cs t fr))
    (hu : P.underlying ty = some d) (hd : (match d with | .struct _ | .array _ _ => true | _ => false) = true) (hi : (P.info? ty).map (·.size) = some cs.size) :
    (results fn tmps).run P w = .ok (.tuple #[.agg cs, tmps.getD u undef, tmps.getD v undef]) w := by
  have hp' : tmps[p]?.getD undef = .pointer (some ⟨g, 0, none⟩) := by simpa using hp
  simp [results, h, hp', asAddr, Sem.run_bind, run_loadVar_row w g t ty cs fr d hg hu hd hi]
theorem lib_bytesOf (l : BL) : Lib.bytesOf (bI l) = l := by
  unfold Lib.bytesOf bI
  rw [List.map_map]
  conv => rhs; rw [← List.map_id l]
  refine List.map_congr_left fun c _ => ?_
  simp
theorem Rd.bytesIn {w : World} {a : Option Addr} {n c : Nat} {xs : List Int} (h : Rd .u8 w (.slice a n c) xs) : Lib.BytesIn w a n xs := by
  obtain ⟨a', c', e, h1, h2, h3⟩ := h
  injection e with e1 e2 e3
  subst e1 e2 e3
  intro hn
  rcases h3 with rfl | ⟨b, o, ha, hlt, hc⟩
  · simp at hn
  · exact ⟨b, o, ha, hc⟩
def takeS (b : BL) : SeqS := match takeB b with | some (s, _) => s | none => seq0
def takeN (b : BL) : Nat := match takeB b with | some (_, l) => l | none => 0
def takeE (b : BL) : Int := match takeB b with | some _ => 0 | none => 2
theorem build_cur (a : Option Addr) (n c : Nat) (w : World) : (Instr.build 61 #[(0, .slice a n c)]).run Tryd.prog w = .ok (.agg #[.slice a n c, .int .i64 0]) w := by kernel_rfl
theorem build_rdr (a : Option Addr) (n c : Nat) (w : World) : (Instr.build 63 #[(0, .agg #[.slice a n c, .int .i64 0])]).run Tryd.prog w = .ok (.agg #[.slice a n c, .int .i64 0, .int .i64 0, .int .u8 0, .slice none 0 0, .string ⟨#[]⟩, .int .u8 0, .string ⟨#[]⟩]) w := by kernel_rfl
theorem build_seq0 (w : World) : (Instr.build 37 #[]).run Tryd.prog w = .ok (.agg #[.int .i64 0, .int .u8 0, .slice none 0 0, .string ⟨#[]⟩, .int .u8 0, .string ⟨#[]⟩]) w := by kernel_rfl
theorem RdrAt.range {w : World} {g : Nat} {a : Option Addr} {n c at_ : Nat} {k : Int} {p : UInt8} {pv : Value} {I : BL} {f : UInt8} {D : BL} (h : RdrAt w g a n c at_ k p pv I f D) :
    w.rangeAt g 2 [.int .i64 k, .int .u8 p.toNat, pv, .string (ba I), .int .u8 f.toNat, .string (ba D)] := by
  intro j v hj
  rw [cell_of_row _ _ _ _ _ _ h]
  have hl := (List.getElem?_eq_some_iff.1 hj).1
  simp at hl
  rcases (by omega : j = 0 ∨ j = 1 ∨ j = 2 ∨ j = 3 ∨ j = 4 ∨ j = 5) with rfl | rfl | rfl | rfl | rfl | rfl <;> simpa using hj
theorem RdrAt.seq {w : World} {g : Nat} {a : Option Addr} {n c at_ : Nat} {k : Int} {p : UInt8} {pv : Value} {I : BL} {f : UInt8} {D : BL} (h : RdrAt w g a n c at_ k p pv I f D) :
    (Instr.loadAt 37 (.pointer (some ⟨g, 2, none⟩))).run Tryd.prog w = .ok (.agg #[.int .i64 k, .int .u8 p.toNat, pv, .string (ba I), .int .u8 f.toNat, .string (ba D)]) w :=
  run_loadAt_mid w g 2 37 [.int .i64 k, .int .u8 p.toNat, pv, .string (ba I), .int .u8 f.toNat, .string (ba D)] _ h.range Tryd.underlying37 rfl (by kernel_rfl)
theorem wire_Take (a : Option Addr) (n c : Nat) (b : BL) (w : World) (hR : Rd .u8 w (.slice a n c) (bI b)) (hn : b.length = n) (hn2 : n ≤ 900000) (hc : c ≤ 1000000000000000) (hA : (a = none ∧ c = 0) ∨ ∃ bb o, a = some ⟨bb, o, none⟩) (ht : Tab w)
    (hbw : ∀ q, blkOf (.slice a n c) q → q < w.heap.size)
    (hD : peekB b 0 = 27 → peekB b 1 = 80 → (rdRest b (rdParams b ⟨2, ⟨3, 0, [], [], 0, []⟩⟩)).at_ ≤ c) :
    Calls Tryd.prog 10 #[.slice a n c] w fun e w' => ∃ pv, e = .returned (.tuple #[(takeS b).v pv, .int .i64 (takeN b), .int .i64 (takeE b)]) ∧ RdRowsS (fun q => w.heap.size ≤ q) w' pv (takeS b).params ∧ Below w.heap.size w w' := by
  obtain ⟨R, hRB⟩ : ∃ R, readB b = R := ⟨_, rfl⟩
  have hnc : n ≤ c := by obtain ⟨_, _, e, h, _⟩ := hR; injection e with _ e2 e3; rw [bI_len] at h e2; omega
  obtain ⟨W2, hW2⟩ : ∃ W2, (w.alloc (Obj.cells #[.int .i64 0, .int .u8 0, .slice none 0 0, .string ⟨#[]⟩, .int .u8 0, .string ⟨#[]⟩] 37)).alloc (Obj.cells #[.slice a n c, .int .i64 0, .int .i64 0, .int .u8 0, .slice none 0 0, .string ⟨#[]⟩, .int .u8 0, .string ⟨#[]⟩] 63) = W2 := ⟨_, rfl⟩
  have hB2 : Below w.heap.size w W2 := by rw [← hW2]; exact below_alloc (below_alloc (Below.refl _ _) _) _
  have hS2 : RdrAt W2 (w.heap.size + 1) a n c 0 0 0 (.slice none 0 0) [] 0 [] := by
    rw [← hW2]
    have h := heap_alloc_new (w.alloc (Obj.cells #[.int .i64 0, .int .u8 0, .slice none 0 0, .string ⟨#[]⟩, .int .u8 0, .string ⟨#[]⟩] 37)) (Obj.cells #[.slice a n c, .int .i64 0, .int .i64 0, .int .u8 0, .slice none 0 0, .string ⟨#[]⟩, .int .u8 0, .string ⟨#[]⟩] 63)
    rw [World.size_alloc] at h
    exact h
  have hZ2 : W2.heap[w.heap.size]? = some (.cells #[.int .i64 0, .int .u8 0, .slice none 0 0, .string ⟨#[]⟩, .int .u8 0, .string ⟨#[]⟩] 37) := by
    rw [← hW2]
    have h := heap_alloc_new w (Obj.cells #[.int .i64 0, .int .u8 0, .slice none 0 0, .string ⟨#[]⟩, .int .u8 0, .string ⟨#[]⟩] 37)
    exact ((below_alloc (Below.refl _ _) _).block _ (by rw [World.size_alloc]; exact Nat.lt_succ_self _)).trans h
  have hRB2 : RdB W2 (w.heap.size + 1) a n c b := ⟨hR.below hB2, hn, fun h => by have := hbw _ h; omega, hn2, hc, hA, fun q hq => Nat.lt_of_lt_of_le (hbw q hq) hB2.size⟩
  have hRd := Lib.hid (reader_read (w.heap.size + 1) a n c b W2 hRB2 hS2 hD)
  rw [hRB] at hRd
  rw [← hW2] at hRd
  have HW2 := Lib.hid hW2
  have HZ2 := Lib.hid hZ2
  have HB2 := Lib.hid hB2
  have HR := Lib.hid hR
  have HT := Lib.hid ht
  have HPut := Lib.hid (fun W pv hRW (hb : Below w.heap.size w W) => wire_Put R.s pv W hRW (ht.below hb))
  have hPre := Lib.hid (fun (va : Option Addr) (vc : Nat) W (hb : Below w.heap.size w W) (hRv : Rd .u8 W (.slice va (bI (putE R.s)).length vc) (bI (putE R.s))) =>
    Tryd.bytes_HasPrefix_all a va n c (bI (putE R.s)).length vc (bI b) (bI (putE R.s)) W (by rw [bI_len]; exact hn) rfl hnc (Rd.bytesIn (hR.below hb)) (Rd.bytesIn hRv))
  rw [lib_bytesOf, lib_bytesOf] at hPre
  have hTk : takeB b = if mayE R.s = 0 ∧ (putB R.s).isPrefixOf b = true ∧ (putB R.s).length = R.at_ then some (R.s, R.at_) else none := by unfold takeB; rw [hRB]
  clear hR ht hZ2 hB2 hS2 hRB2 hW2 hD
  have hQ : ∀ w3 pv w4, RdrAt w3 (w.heap.size + 1) a n c R.at_ R.s.kind R.s.priv pv R.s.inter R.s.final R.s.data → Agree (fun q => q ≠ w.heap.size + 1) W2 w3 → Below w3.heap.size w3 w4 →
      (w4.heap[w.heap.size]? = some (.cells #[.int .i64 0, .int .u8 0, .slice none 0 0, .string ⟨#[]⟩, .int .u8 0, .string ⟨#[]⟩] 37) ∧ Below w.heap.size w w4 ∧ RdrAt w4 (w.heap.size + 1) a n c R.at_ R.s.kind R.s.priv pv R.s.inter R.s.final R.s.data) := by
    intro w3 pv w4 h3 hA3 hB4
    have hlt : w.heap.size < W2.heap.size := (Array.getElem?_eq_some_iff.1 HZ2.out).1
    have h1 := (hA3.block _ hlt (show w.heap.size ≠ w.heap.size + 1 by omega)).trans HZ2.out
    refine ⟨(hB4.block _ (Nat.lt_of_lt_of_le hlt hA3.size)).trans h1, ?_, (hB4.block _ h3.lt).trans h3⟩
    exact (Agree.below HB2.out (by omega) hA3 (fun k hk => (show k ≠ w.heap.size + 1 by omega))).trans (hB4.mono (by have := hA3.size; omega))
  by_cases hcc : mayE R.s = 0 ∧ (putB R.s).isPrefixOf b = true ∧ (putB R.s).length = R.at_
  · rw [if_pos hcc] at hTk
    have hE : takeE b = 0 := by unfold takeE; rw [hTk]
    have hS : takeS b = R.s := by unfold takeS; rw [hTk]
    have hN : takeN b = R.at_ := by unfold takeN; rw [hTk]
    rw [hE, hS, hN]
    clear hE hS hN hTk
    obtain ⟨h0, hp, hl⟩ := hcc
    have hPE : putE R.s = putB R.s := if_pos h0
    rw [h0] at HPut
    rw [show Lib.hasPrefix b (putE R.s) = true from by rw [hPE]; exact hp] at hPre
    have hlen : (((bI (putE R.s)).length : Nat) : Int) = (R.at_ : Int) := by rw [bI_len, hPE, hl]
    clear hPE hp hl h0
    go_enter Tryd.func10, Tryd.ntmps10
    go_wp2_with (first
      | ((with_reducible apply wpList_build 61); exact rfl; exact rfl; apply build_cur; case hp => exact rfl)
      | ((with_reducible apply wpList_build 63); exact rfl; exact rfl; apply build_rdr; case hp => exact rfl)
      | ((with_reducible apply wpList_build 37); exact rfl; exact rfl; apply build_seq0; case hp => exact rfl)
      | ((with_reducible apply wpList_store_new 63); exact rfl; exact rfl; exact rfl; exact rfl; exact rfl; kernel_rfl; rfl; rfl)
      | (go_at_call 28; refine hRd.out.mono ?_; rintro e w3 ⟨rfl, pv, hS3, hP3, hA3⟩; rw [HW2.out] at hA3 hP3; have hld := hS3.seq; have q3 := hQ w3 pv w3 hS3 hA3 (Below.refl _ _))
      | ((with_reducible apply wpList_load_run 37); exact rfl; exact rfl; exact hld)
      | (go_at_call 17; refine (HPut.out w3 pv hP3.rd q3.2.1).mono ?_; rintro e w4 ⟨v, rfl, hOw, hB4⟩; obtain ⟨va, vc, rfl⟩ := ownsRow_slice hOw.2; have q4 := hQ w3 pv w4 hS3 hA3 hB4; have c1 := q4.2.2.c1; have hst2 : (Instr.storeAt 37 (.pointer (some ⟨w.heap.size, 0, none⟩)) (.agg #[.int .i64 0, .int .u8 0, .slice none 0 0, .string ⟨#[]⟩, .int .u8 0, .string ⟨#[]⟩])).run Tryd.prog w4 = _ := run_store_row q4.1 (by kernel_rfl) rfl (by simp [Value.oneCell']))
      | (go_at_call 29; refine (hPre.out va vc w4 q4.2.1 hOw.rd).mono ?_; rintro e w5 ⟨rfl, rfl⟩)
      | ((with_reducible apply wpList_store_run 37); exact rfl; exact rfl; exact hst2))
    obtain ⟨pa, pl, pc, rfl⟩ : ∃ pa pl pc, pv = .slice pa pl pc := by obtain ⟨pa, pc, e, _⟩ := hP3; exact ⟨_, _, _, e⟩
    refine (wpIn_wide (n := 3)).1 ?_
    refine wpIn_region_held (L := 99) (S := fun W => RdrAt W (w.heap.size + 1) a n c R.at_ R.s.kind R.s.priv (.slice pa pl pc) R.s.inter R.s.final R.s.data) rfl ?_
    have hS5 : RdrAt w5.drew (w.heap.size + 1) a n c R.at_ R.s.kind R.s.priv (.slice pa pl pc) R.s.inter R.s.final R.s.data := q4.2.2
    refine wpAnyInH_take (i := 0) (v := .pointer (some ⟨w.heap.size + 1, 2, none⟩)) (by kernel_rfl) (by kernel_rfl) rfl (by kernel_rfl) (by kernel_rfl) (by kernel_rfl) (fun _ _ _ h => h) ⟨Or.inl ⟨by rfl, ?_⟩, fun _ => rfl⟩ hS5 ?_
    · intro W hSw; go_simp
    refine wpAnyInH_take (i := 1) (v := .agg #[.int .i64 R.s.kind, .int .u8 R.s.priv.toNat, .slice pa pl pc, .string (ba R.s.inter), .int .u8 R.s.final.toNat, .string (ba R.s.data)]) (by kernel_rfl) (by kernel_rfl) rfl (by kernel_rfl) (by kernel_rfl) (by kernel_rfl) (fun _ _ _ h => h) ⟨yieldsIf_load_mid (by rfl) 37 _ rfl (w.heap.size + 1) 2 rfl [.int .i64 R.s.kind, .int .u8 R.s.priv.toNat, .slice pa pl pc, .string (ba R.s.inter), .int .u8 R.s.final.toNat, .string (ba R.s.data)] _ (fun W hSw => RdrAt.range hSw) Tryd.underlying37 rfl (by kernel_rfl), fun _ => rfl⟩ hS5 ?_
    refine wpAnyInH_take (i := 2) (v := .pointer (some ⟨w.heap.size + 1, 0, none⟩)) (by kernel_rfl) (by kernel_rfl) rfl (by kernel_rfl) (by kernel_rfl) (by kernel_rfl) (fun _ _ _ h => h) ⟨Or.inl ⟨by rfl, ?_⟩, fun _ => rfl⟩ hS5 ?_
    · intro W hSw; go_simp
    refine wpAnyInH_take (i := 3) (v := .pointer (some ⟨w.heap.size + 1, 1, none⟩)) (by kernel_rfl) (by kernel_rfl) rfl (by kernel_rfl) (by kernel_rfl) (by kernel_rfl) (fun _ _ _ h => h) ⟨Or.inl ⟨by rfl, ?_⟩, fun _ => rfl⟩ hS5 ?_
    · intro W hSw; go_simp
    refine wpAnyInH_take (i := 4) (v := .int .i64 R.at_) (by kernel_rfl) (by kernel_rfl) rfl (by kernel_rfl) (by kernel_rfl) (by kernel_rfl) (fun _ _ _ h => h) ⟨Or.inl ⟨by rfl, ?_⟩, fun _ => rfl⟩ hS5 ?_
    · intro W hSw; have c1 := RdrAt.c1 hSw; go_simp
    have hst3 : (Instr.storeAt 37 (.pointer (some ⟨w.heap.size, 0, none⟩)) (.agg #[.int .i64 R.s.kind, .int .u8 R.s.priv.toNat, .slice pa pl pc, .string (ba R.s.inter), .int .u8 R.s.final.toNat, .string (ba R.s.data)])).run Tryd.prog w5.drew = _ := run_store_row (show w5.drew.heap[w.heap.size]? = _ from q4.1) (by kernel_rfl) rfl (by simp [Value.oneCell'])
    refine wpAnyInH_list (i := 5) (by kernel_rfl) rfl rfl ?_
    gi_wp2_with ((with_reducible apply wpListIn_store_run 37); exact rfl; exact rfl; exact hst3)
    have hS6 : RdrAt (w5.drew.setRow w.heap.size #[.int .i64 R.s.kind, .int .u8 R.s.priv.toNat, .slice pa pl pc, .string (ba R.s.inter), .int .u8 R.s.final.toNat, .string (ba R.s.data)]) (w.heap.size + 1) a n c R.at_ R.s.kind R.s.priv (.slice pa pl pc) R.s.inter R.s.final R.s.data :=
      (setRow_other w5.drew w.heap.size (w.heap.size + 1) _ (by omega)).trans hS5
    refine ⟨.inr hS6, ?_⟩
    refine wpAnyInH_list (i := 6) (by kernel_rfl) rfl rfl ?_
    gi_wp2
    refine ⟨.inr hS6, ?_⟩
    refine wpAnyInH_list (i := 7) (by kernel_rfl) rfl rfl ?_
    gi_wp2
    refine ⟨.inr hS6, by kernel_rfl, ?_⟩
    go_wp2
    have hlt : w.heap.size < W2.heap.size := (Array.getElem?_eq_some_iff.1 HZ2.out).1
    have hz := setRow_heap w5.drew w.heap.size _ #[.int .i64 R.s.kind, .int .u8 R.s.priv.toNat, .slice pa pl pc, .string (ba R.s.inter), .int .u8 R.s.final.toNat, .string (ba R.s.data)] _ _ q4.1
    refine bodyPost_ret (results_row_tmp2 Tryd.results10 _ _ w.heap.size _ _ (0, 0) _ rfl hz Tryd.underlying37 rfl (by kernel_rfl)) rfl ⟨.slice pa pl pc, rfl, ?_, ?_⟩
    · refine RdRowsS.mono (S := fun q => W2.heap.size ≤ q) (RdRowsS.agree hP3 ?_) (fun q hq => by have : W2.heap.size ≤ q := hq; omega)
      exact ((Agree.of_below hB4).drew).setRow (fun h => by have : W2.heap.size ≤ w.heap.size := h; omega) _
    · exact Agree.below q4.2.1 (by have := q4.2.2.lt; omega) (((Agree.refl (fun k => k ≠ w.heap.size) _).drew).setRow (fun h => h rfl) _) (fun k hk => (show k ≠ w.heap.size by omega))
  · rw [if_neg hcc] at hTk
    have hE : takeE b = 2 := by unfold takeE; rw [hTk]
    have hS : takeS b = seq0 := by unfold takeS; rw [hTk]
    have hN : takeN b = 0 := by unfold takeN; rw [hTk]
    rw [hE, hS, hN]
    clear hE hS hN hTk
    by_cases h0 : mayE R.s = 0
    · have hPE : putE R.s = putB R.s := if_pos h0
      rw [h0] at HPut
      cases hp : (putE R.s).isPrefixOf b with
      | false =>
        rw [show Lib.hasPrefix b (putE R.s) = false from hp] at hPre
        clear hcc hPE h0 hp
        go_enter Tryd.func10, Tryd.ntmps10
        go_wp2_with (first
          | ((with_reducible apply wpList_build 61); exact rfl; exact rfl; apply build_cur; case hp => exact rfl)
          | ((with_reducible apply wpList_build 63); exact rfl; exact rfl; apply build_rdr; case hp => exact rfl)
          | ((with_reducible apply wpList_build 37); exact rfl; exact rfl; apply build_seq0; case hp => exact rfl)
          | ((with_reducible apply wpList_store_new 63); exact rfl; exact rfl; exact rfl; exact rfl; exact rfl; kernel_rfl; rfl; rfl)
          | (go_at_call 28; refine hRd.out.mono ?_; rintro e w3 ⟨rfl, pv, hS3, hP3, hA3⟩; rw [HW2.out] at hA3 hP3; have hld := hS3.seq; have q3 := hQ w3 pv w3 hS3 hA3 (Below.refl _ _))
          | ((with_reducible apply wpList_load_run 37); exact rfl; exact rfl; exact hld)
          | (go_at_call 17; refine (HPut.out w3 pv hP3.rd q3.2.1).mono ?_; rintro e w4 ⟨v, rfl, hOw, hB4⟩; obtain ⟨va, vc, rfl⟩ := ownsRow_slice hOw.2; have q4 := hQ w3 pv w4 hS3 hA3 hB4; have c1 := q4.2.2.c1; have hst2 : (Instr.storeAt 37 (.pointer (some ⟨w.heap.size, 0, none⟩)) (.agg #[.int .i64 0, .int .u8 0, .slice none 0 0, .string ⟨#[]⟩, .int .u8 0, .string ⟨#[]⟩])).run Tryd.prog w4 = _ := run_store_row q4.1 (by kernel_rfl) rfl (by simp [Value.oneCell']))
          | (go_at_call 29; refine (hPre.out va vc w4 q4.2.1 hOw.rd).mono ?_; rintro e w5 ⟨rfl, rfl⟩)
          | ((with_reducible apply wpList_store_run 37); exact rfl; exact rfl; exact hst2))
        have hz := setRow_heap w5 w.heap.size _ #[.int .i64 0, .int .u8 0, .slice none 0 0, .string ⟨#[]⟩, .int .u8 0, .string ⟨#[]⟩] _ _ q4.1
        exact bodyPost_ret (results_row_tmp2 Tryd.results10 _ _ w.heap.size _ _ (0, 0) _ rfl hz Tryd.underlying37 rfl (by kernel_rfl)) rfl ⟨.slice none 0 0, rfl, RdRowsS.nil _ _, Agree.below q4.2.1 (by have := q4.2.2.lt; omega) ((Agree.refl (fun k => k ≠ w.heap.size) _).setRow (fun h => h rfl) _) (fun k hk => (show k ≠ w.heap.size by omega))⟩
      | true =>
        rw [show Lib.hasPrefix b (putE R.s) = true from hp] at hPre
        have hlen : ¬ ((((bI (putE R.s)).length : Nat) : Int) = (R.at_ : Int)) := by
          rw [bI_len, hPE]
          intro e
          exact hcc ⟨h0, by rw [← hPE]; exact hp, by omega⟩
        clear hcc hPE h0 hp
        go_enter Tryd.func10, Tryd.ntmps10
        go_wp2_with (first
          | ((with_reducible apply wpList_build 61); exact rfl; exact rfl; apply build_cur; case hp => exact rfl)
          | ((with_reducible apply wpList_build 63); exact rfl; exact rfl; apply build_rdr; case hp => exact rfl)
          | ((with_reducible apply wpList_build 37); exact rfl; exact rfl; apply build_seq0; case hp => exact rfl)
          | ((with_reducible apply wpList_store_new 63); exact rfl; exact rfl; exact rfl; exact rfl; exact rfl; kernel_rfl; rfl; rfl)
          | (go_at_call 28; refine hRd.out.mono ?_; rintro e w3 ⟨rfl, pv, hS3, hP3, hA3⟩; rw [HW2.out] at hA3 hP3; have hld := hS3.seq; have q3 := hQ w3 pv w3 hS3 hA3 (Below.refl _ _))
          | ((with_reducible apply wpList_load_run 37); exact rfl; exact rfl; exact hld)
          | (go_at_call 17; refine (HPut.out w3 pv hP3.rd q3.2.1).mono ?_; rintro e w4 ⟨v, rfl, hOw, hB4⟩; obtain ⟨va, vc, rfl⟩ := ownsRow_slice hOw.2; have q4 := hQ w3 pv w4 hS3 hA3 hB4; have c1 := q4.2.2.c1; have hst2 : (Instr.storeAt 37 (.pointer (some ⟨w.heap.size, 0, none⟩)) (.agg #[.int .i64 0, .int .u8 0, .slice none 0 0, .string ⟨#[]⟩, .int .u8 0, .string ⟨#[]⟩])).run Tryd.prog w4 = _ := run_store_row q4.1 (by kernel_rfl) rfl (by simp [Value.oneCell']))
          | (go_at_call 29; refine (hPre.out va vc w4 q4.2.1 hOw.rd).mono ?_; rintro e w5 ⟨rfl, rfl⟩)
          | ((with_reducible apply wpList_store_run 37); exact rfl; exact rfl; exact hst2))
        have hz := setRow_heap w5 w.heap.size _ #[.int .i64 0, .int .u8 0, .slice none 0 0, .string ⟨#[]⟩, .int .u8 0, .string ⟨#[]⟩] _ _ q4.1
        exact bodyPost_ret (results_row_tmp2 Tryd.results10 _ _ w.heap.size _ _ (0, 0) _ rfl hz Tryd.underlying37 rfl (by kernel_rfl)) rfl ⟨.slice none 0 0, rfl, RdRowsS.nil _ _, Agree.below q4.2.1 (by have := q4.2.2.lt; omega) ((Agree.refl (fun k => k ≠ w.heap.size) _).setRow (fun h => h rfl) _) (fun k hk => (show k ≠ w.heap.size by omega))⟩
    · generalize mayE R.s = me at *
      clear hcc
      go_enter Tryd.func10, Tryd.ntmps10
      go_wp2_with (first
        | ((with_reducible apply wpList_build 61); exact rfl; exact rfl; apply build_cur; case hp => exact rfl)
        | ((with_reducible apply wpList_build 63); exact rfl; exact rfl; apply build_rdr; case hp => exact rfl)
        | ((with_reducible apply wpList_build 37); exact rfl; exact rfl; apply build_seq0; case hp => exact rfl)
        | ((with_reducible apply wpList_store_new 63); exact rfl; exact rfl; exact rfl; exact rfl; exact rfl; kernel_rfl; rfl; rfl)
        | (go_at_call 28; refine hRd.out.mono ?_; rintro e w3 ⟨rfl, pv, hS3, hP3, hA3⟩; rw [HW2.out] at hA3 hP3; have hld := hS3.seq; have q3 := hQ w3 pv w3 hS3 hA3 (Below.refl _ _))
        | ((with_reducible apply wpList_load_run 37); exact rfl; exact rfl; exact hld)
        | (go_at_call 17; refine (HPut.out w3 pv hP3.rd q3.2.1).mono ?_; rintro e w4 ⟨v, rfl, hOw, hB4⟩; obtain ⟨va, vc, rfl⟩ := ownsRow_slice hOw.2; have q4 := hQ w3 pv w4 hS3 hA3 hB4; have c1 := q4.2.2.c1; have hst2 : (Instr.storeAt 37 (.pointer (some ⟨w.heap.size, 0, none⟩)) (.agg #[.int .i64 0, .int .u8 0, .slice none 0 0, .string ⟨#[]⟩, .int .u8 0, .string ⟨#[]⟩])).run Tryd.prog w4 = _ := run_store_row q4.1 (by kernel_rfl) rfl (by simp [Value.oneCell']))
        | (go_at_call 29; refine (hPre.out va vc w4 q4.2.1 hOw.rd).mono ?_; rintro e w5 ⟨rfl, rfl⟩)
        | ((with_reducible apply wpList_store_run 37); exact rfl; exact rfl; exact hst2))
      have hz := setRow_heap w4 w.heap.size _ #[.int .i64 0, .int .u8 0, .slice none 0 0, .string ⟨#[]⟩, .int .u8 0, .string ⟨#[]⟩] _ _ q4.1
      exact bodyPost_ret (results_row_tmp2 Tryd.results10 _ _ w.heap.size _ _ (0, 0) _ rfl hz Tryd.underlying37 rfl (by kernel_rfl)) rfl ⟨.slice none 0 0, rfl, RdRowsS.nil _ _, Agree.below q4.2.1 (by have := q4.2.2.lt; omega) ((Agree.refl (fun k => k ≠ w.heap.size) _).setRow (fun h => h rfl) _) (fun k hk => (show k ≠ w.heap.size by omega))⟩
end Go.Proofs.YthllkfbegdmdkaaDoor
