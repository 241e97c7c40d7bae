/- wire.body. -/
import Derived.Test.YthllkfbegdmdkaaDoorJoin
import Derived.Deep.RegionWith
import Derived.Deep.DeepCutAuto
import Derived.Laws.IdiomStrings
namespace Go.Proofs.YthllkfbegdmdkaaDoor
open Go.RowKit
set_option linter.unusedSimpArgs false
set_option linter.unusedVariables false
set_option maxRecDepth 100000
set_option maxHeartbeats 4000000

theorem in64_part {p : List Int} (h : partB p = true) : p.length ≤ 8 ∧ ∀ x ∈ p, in64 x := by
  obtain ⟨_, h1, h2⟩ := partB_parts h
  exact ⟨h1, fun x hx => by have := h2 x hx; unfold in64; omega⟩
theorem oneL_len {p : List Int} (h : partB p = true) : (oneL p).length ≤ 176 := by
  obtain ⟨h1, h2⟩ := in64_part h
  have hb := join_le 21 (p.map numL) [58] (by
    intro y hy
    obtain ⟨x, hx, rfl⟩ := List.mem_map.1 hy
    have h3 := numS_size x (h2 x hx)
    rw [numS_ba x (h2 x hx), ba_size] at h3
    exact h3)
  rw [List.length_map] at hb
  unfold oneL joinL
  have : ([58] : BL).length = 1 := rfl
  rw [this] at hb
  omega
theorem conv_back1 (f : UInt8) (W : World) (g : Nat) (h : W.cell? ⟨g, 0, none⟩ = some (.int .u8 f.toNat)) :
    (convert 27 9 (.slice (some ⟨g, 0, none⟩) 1 1)).run Tryd.prog W = .ok (.string (ba [f])) W :=
  run_convert_bytes_back (P := Tryd.prog) W 27 9 5 ⟨g, 0, none⟩ 1 [f] Tryd.underlying27 Tryd.underlying5 Tryd.underlying9 (fun j hj => by
    have : j = 0 := by simp at hj; omega
    subst this
    exact h)
/-- What lies in wr lies so in W. -/
abbrev NewOf (wr W : World) : Prop := Below wr.heap.size wr W
theorem below_new {wr W W' : World} (hb : Below W.heap.size W W') (h : NewOf wr W := by repeat (first | exact Below.refl _ _ | apply below_drew | apply below_alloc)) : NewOf wr W' := below_then h hb
theorem box_kept {wr w2 : World} {t : TypeId} {v : Value} (hb : Below (wr.drew.alloc (.cells #[v] t)).heap.size (wr.drew.alloc (.cells #[v] t)) w2) : w2.cell? ⟨wr.heap.size, 0, none⟩ = some v :=
  (hb.cell (p := ⟨wr.heap.size, 0, none⟩) (by rw [World.size_alloc]; exact Nat.lt_succ_self _)).trans (Boxed.new wr.drew t v).cell
theorem ba_append (a b : BL) : ba a ++ ba b = ba (a ++ b) := by
  apply ByteArray.ext
  simp [ba, ByteArray.data_append]
theorem wire_body (s : SeqS) (pv : Value) (w : World) (hR : RdRows w pv s.params) (ht : Tab w) (hL : listB s.params = true) (hi : s.inter.length ≤ 1000) :
    Calls Tryd.prog 38 #[s.v pv] w fun e w' => e = .returned (.string (ba (bodyL s))) ∧ Below w.heap.size w w' := by
  obtain ⟨a, c, rfl⟩ := hR.len
  obtain ⟨i0, hi0, hz0, hz1, hz2⟩ := info_parts infoStr
  obtain ⟨hl16, _, hpart⟩ := listB_parts hL
  obtain ⟨n, hn⟩ : ∃ n, s.params.length = n := ⟨_, rfl⟩
  have HN := Lib.hid hn
  have HR := Lib.hid hR
  have HP := Lib.hid hpart
  have HT := Lib.hid ht
  have hn16 : n ≤ 16 := by omega
  have HB : Hid (bodyL s = (if s.priv = 0 then [] else [s.priv]) ++ (parL s.params ++ s.inter ++ [s.final])) := rfl
  generalize bodyL s = X at HB ⊢
  have HC := Lib.hid (conv_back1 s.final)
  have HC2 := Lib.hid (conv_back1 s.priv)
  clear hR hpart ht hL hl16
  unfold SeqS.v
  rw [hn]
  clear hn
  generalize s.params = L at *
  generalize (s.kind) = k
  obtain ⟨st, hst⟩ : ∃ st, w.heap.size = st := ⟨_, rfl⟩
  go_enter Tryd.func38, Tryd.ntmps38
  go_wp2
  go_loopg [3, 10] (n + 1) (fun g s3 s10 wr => ∃ (i : Nat) (ua : Option Addr) (uc : Nat), s10 = .int .i64 i ∧ s3 = .slice ua i uc ∧ wr.ownsRow (st + 1) 9 1 (.slice ua i uc) i ((L.take i).map (fun x => Value.string (ba (oneL x)))) ∧ i ≤ n ∧ n - i < g ∧ Below (st + 1) (w.alloc (.cells #[.int .i64 k, .int .u8 s.priv.toNat, .slice a n c, .string (ba s.inter), .int .u8 s.final.toNat, .string (ba s.data)] 37)) wr)
  case atStart => exact ⟨0, none, 0, rfl, rfl, World.ownsRow_nil _ _ _ _, by omega, by omega, Below.refl _ _⟩
  case round =>
    obtain ⟨i, ua, uc, rfl, rfl, hown, hi, hg, hb⟩ := hrel
    by_cases hin : i < n
    · have hinI : (i : Int) < n := by omega
      obtain ⟨x, hx⟩ : ∃ x, L[i]? = some x := ⟨_, List.getElem?_eq_getElem (by rw [HN.out]; exact hin)⟩
      have hR0 := HR.out
      rw [HN.out] at hR0
      obtain ⟨b, o, u, rfl, hlt, hu, hRu⟩ := hR0.at hx
      have hBw : Below w.heap.size w wr := (below_alloc (Below.refl _ w) _).trans (hb.mono (by omega))
      have hu' : wr.cell? ⟨b, o + i, none⟩ = some u := (hBw.cell (p := ⟨b, o + i, none⟩) hlt).trans hu
      obtain ⟨hp8, hpin⟩ := in64_part (HP.out x (List.mem_of_getElem? hx))
      have hO := Lib.hid (fun W (hW : NewOf wr W) => wire_one x u W ((hRu.below hBw).below hW) hpin (by omega) ((HT.out.below hBw).below hW))
      rw [oneS_ba x hpin] at hO
      obtain ⟨ua', uc', rfl⟩ := hRu.lenp
      have htk : Hid ((L.take (i + 1)).map (fun x => Value.string (ba (oneL x))) = (L.take i).map (fun x => Value.string (ba (oneL x))) ++ [Value.string (ba (oneL x))]) := by
        show _ = _
        rw [List.take_add_one, hx, List.map_append]; rfl
      have hsz := hb.size
      rw [World.size_alloc] at hsz
      clear hx hRu hR0 hu hpin
      generalize ba (oneL x) = S at hO htk
      go_wp2_with (first | (go_at_call 59; refine (hO.out _ (Below.refl _ _)).mono ?_; rintro e w2 ⟨rfl, hb2⟩) | (at_builtin; refine wpList_append_lies _ rfl _ _ 100 rfl (st + 1) 9 i0 _ 1 16 Tryd.underlying100 hi0 hz0 hz1 hz2 rfl (by decide) _ i _ rfl ((ownsRow_agree hown (S := fun _ => True) (fun _ _ => trivial) (Agree.of_below hb2)).alloc _) ⟨w2.heap.size, 0, none⟩ 1 1 [.string S] rfl rfl (World.news_of_block (heap_alloc_new w2 _)) (by simp [Value.oneCell']) (by omega) (by unfold maxLen; omega) (by omega) (by have := hb2.size; simp; omega) (w2.heap.size + 1) (by simp) ?_; intro g cap w3 hown' hgrow hat hglt))
      go_roundg (n - i)
      case measure => omega
      case rel =>
        refine ⟨i + 1, _, cap, by simp, rfl, by rw [htk.out]; exact hown', by omega, by omega, ?_⟩
        have h1 : Below (st + 1) _ w2 := hb.trans (hb2.mono (by omega))
        exact (h1.alloc (by have := hb2.size; omega) _).grown hgrow (by have := hb2.size; simp; omega) (fun j hj => (hown.lt j hj).1)
    · obtain rfl : i = n := by omega
      have htl : L.take i = L := by rw [← HN.out, List.take_length]
      rw [htl] at hown
      have hJ := Lib.hid (fun (W : World) (hW : Below wr.heap.size wr W) => join_own (s := st + 1) (wr := W) (L.map oneL) [59] 176 (by rw [List.map_map]; exact ownsRow_agree hown (S := fun _ => True) (fun _ _ => trivial) (Agree.of_below hW)) (by omega) (by decide) (by
        intro x hx
        obtain ⟨p, hp, rfl⟩ := List.mem_map.1 hx
        exact oneL_len (HP.out p hp)) (by decide))
      have hsz := hb.size
      rw [World.size_alloc] at hsz
      have hblk : wr.heap[st]? = some (.cells #[.int .i64 k, .int .u8 s.priv.toNat, .slice a i c, .string (ba s.inter), .int .u8 s.final.toNat, .string (ba s.data)] 37) := by
        rw [← hst] at hb ⊢
        exact (hb.block w.heap.size (by omega)).trans (heap_alloc_new w _)
      have k1 : wr.cell? ⟨st, 1, none⟩ = some (.int .u8 s.priv.toNat) := by rw [cell_of_row _ _ _ _ _ _ hblk]; rfl
      have k3 : wr.cell? ⟨st, 3, none⟩ = some (.string (ba s.inter)) := by rw [cell_of_row _ _ _ _ _ _ hblk]; rfl
      have k4 : wr.cell? ⟨st, 4, none⟩ = some (.int .u8 s.final.toNat) := by rw [cell_of_row _ _ _ _ _ _ hblk]; rfl
      have hcv := fun W g h => HC.out W g h
      have hcells : ∀ W, NewOf wr W → W.cell? ⟨st, 1, none⟩ = some (.int .u8 s.priv.toNat) ∧ W.cell? ⟨st, 3, none⟩ = some (.string (ba s.inter)) ∧ W.cell? ⟨st, 4, none⟩ = some (.int .u8 s.final.toNat) ∧ st < W.heap.size := fun W hW =>
        ⟨(hW.cell (p := ⟨st, 1, none⟩) (by show st < _; omega)).trans k1, (hW.cell (p := ⟨st, 3, none⟩) (by show st < _; omega)).trans k3, (hW.cell (p := ⟨st, 4, none⟩) (by show st < _; omega)).trans k4, by have := hW.size; omega⟩
      have hcvN : ∀ W : World, (convert 27 9 (.slice (some ⟨W.heap.size, 0, none⟩) 1 1)).run Tryd.prog (W.alloc (.cells #[.int .u8 s.final.toNat] 5)) = .ok (.string (ba [s.final])) (W.alloc (.cells #[.int .u8 s.final.toNat] 5)) := fun W => HC.out _ _ (Boxed.new W _ _).cell
      generalize (s.final.toNat : Int) = F at *
      have hpp : Hid (∀ W : World, (convert 27 9 (.slice (some ⟨W.heap.size, 0, none⟩) 1 1)).run Tryd.prog (W.alloc (.cells #[.int .u8 s.priv.toNat] 5)) = .ok (.string (ba [s.priv])) (W.alloc (.cells #[.int .u8 s.priv.toNat] 5))) := fun W => HC2.out _ _ (Boxed.new W _ _).cell
      have hPr : Hid ((s.priv = 0 ↔ (s.priv.toNat : Int) = 0)) := by
        show _ ↔ _
        have := u8_eq0 s.priv
        rw [Bool.eq_iff_iff, beq_iff_eq, beq_iff_eq] at this
        exact this
      generalize (s.priv.toNat : Int) = P at *
      have hJlen : (Lib.join (L.map oneL) [59]).length ≤ 177 * 16 := by
        have hq := join_le 176 (L.map oneL) [59] (by
          intro x hx
          obtain ⟨p, hp, rfl⟩ := List.mem_map.1 hx
          exact oneL_len (HP.out p hp))
        rw [List.length_map, HN.out] at hq
        have : ([59] : BL).length = 1 := rfl
        rw [this] at hq
        omega
      generalize hjl : Lib.join (L.map oneL) [59] = J at hJ hJlen
      have hJL := Lib.hid hjl
      have hs1 : ¬ 9223372036854775807 < (ba J).size + (ba s.inter).size := by rw [ba_size, ba_size]; omega
      have hs3 : ¬ 9223372036854775807 < (ba J).size + (ba s.inter).size + (ba [s.final]).size := by rw [ba_size, ba_size, ba_size]; simp only [List.length_cons, List.length_nil]; omega
      have hs2 : ¬ 9223372036854775807 < (ba J ++ ba s.inter).size + (ba [s.final]).size := by rw [ByteArray.size_append, ba_size, ba_size, ba_size]; simp only [List.length_cons, List.length_nil]; omega
      have HBB := Lib.hid hb
      have hlt : st < wr.heap.size := by omega
      have HST := Lib.hid hst
      have hsz2 : st + 1 ≤ wr.heap.size := by omega
      clear hown hb hblk hst hjl htl
      go_upto_region 7 with fail
      go_cut [6] (fun s6 wx => s6 = .string (ba J ++ ba s.inter ++ ba [s.final]) ∧ NewOf wr wx)
      case first =>
        go_region_with (first | (go_at_call 58; refine (hJ.out _ ?_).mono ?_; (repeat (first | exact Below.refl _ _ | apply below_drew | apply below_alloc)); rintro e w2 ⟨rfl, hb2⟩; (first | (have m5 := box_kept hb2) | skip); obtain ⟨m1, m3, m4, mz⟩ := hcells _ (below_new hb2)))
        all_goals (go_wp2_with fail; go_meet; exact ⟨rfl, by repeat (first | exact below_new hb2 | apply below_drew | apply below_alloc)⟩)
      case rest =>
        obtain ⟨rfl, hNF⟩ := hcut
        obtain ⟨m1, m3, m4, mz⟩ := hcells _ hNF
        have hX : Hid ((ba J ++ ba s.inter ++ ba [s.final]) = ba (J ++ s.inter ++ [s.final])) := by
          show _ = _
          rw [ba_append, ba_append]
        rw [hX.out]
        have hs4 : ¬ 9223372036854775807 < (ba [s.priv]).size + (ba (J ++ s.inter ++ [s.final])).size := by
          rw [ba_size, ba_size, List.length_append, List.length_append]
          simp only [List.length_cons, List.length_nil]; omega
        generalize hT : ba (J ++ s.inter ++ [s.final]) = TT at *
        have hTT := Lib.hid hT
        clear hJ hcells hcv hX hT hs1 hs2 hs3
        have fin : ∀ (S : ByteArray) (W : World), S = ba X → NewOf wr W → (Ending.returned (Value.string S) = Ending.returned (Value.string (ba X)) ∧ Below w.heap.size w W) := fun S W hS hW =>
          ⟨by rw [hS], (below_alloc (Below.refl _ w) _).trans ((HBB.out.trans (hW.mono hsz2)).mono (by have := HST.out; omega))⟩
        by_cases hP : P = 0
        · have hP' := hPr.out.2 hP
          clear hcvN hpp HC HC2
          go_wp2
          go_ret
          refine fin _ _ ?_ hNF
          rw [HB.out, if_pos hP', ← hTT.out, ← hJL.out]
          rfl
        · have hP' : ¬ s.priv = 0 := fun h => hP (hPr.out.1 h)
          have hP2 : (P != 0) = true := by rw [bne_iff_ne]; exact hP
          have hpr := hpp.out
          clear hcvN hpp
          go_wp2
          go_ret
          refine fin _ _ ?_ (by repeat (first | exact hNF | apply below_drew | apply below_alloc))
          rw [HB.out, if_neg hP', ← hTT.out, ← hJL.out]
          exact ba_append _ _
end Go.Proofs.YthllkfbegdmdkaaDoor
