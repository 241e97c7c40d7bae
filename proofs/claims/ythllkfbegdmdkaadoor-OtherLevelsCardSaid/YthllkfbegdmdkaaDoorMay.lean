/- mods.May. -/
import Derived.Test.YthllkfbegdmdkaaDoorOther
import Derived.Test.YthllkfbegdmdkaaDoorUAll
import Derived.Lib.ConvBytes
namespace Go.Proofs.YthllkfbegdmdkaaDoor
open Go.RowKit
set_option linter.unusedSimpArgs false
set_option linter.unusedVariables false
set_option maxRecDepth 100000
set_option maxHeartbeats 600000

def textC (code : Int) : Bool := code == 0 || (klook code).kind == 1
theorem mods_May1 (code : Int) (w : World) : Calls Tryd.prog 34 #[.int .i64 code] w fun e w' => e = .returned (.bool (textC code)) ∧ Below w.heap.size w w' := by
  have hT : Hid (textC code = (code == 0 || (klook code).kind == 1)) := rfl
  generalize textC code = T at hT ⊢
  have hL := Lib.hid (keys_Look code)
  have hF := field_kind
  generalize klook code = L at hL hT
  obtain ⟨kd, fi, nu, ch, ke⟩ := L
  simp only [KEnt.v] at hL hT
  go_enter Tryd.func34, Tryd.ntmps34
  by_cases h0 : code = 0
  · subst h0
    go_wp2
    go_ret
    rw [hT.out]
    exact ⟨rfl, Below.refl _ _⟩
  · have h0' : (code == 0) = false := by simpa using h0
    go_wp2_with (first | (go_at_call 8; refine (hL.out _).mono ?_; rintro e w2 ⟨rfl, hb2⟩))
    go_ret
    rw [hT.out, h0']
    exact ⟨rfl, hb2⟩
def bytesOf (s : ByteArray) : List Int := s.data.toList.map (fun x => (x.toNat : Int))
theorem bytesOf_len (s : ByteArray) : (bytesOf s).length = s.size := by simp [bytesOf]
theorem bytesOf_range (s : ByteArray) : ∀ x ∈ bytesOf s, 0 ≤ x ∧ x ≤ 255 := by
  intro x hx
  obtain ⟨b, _, rfl⟩ := List.mem_map.1 hx
  have := b.toNat_lt
  omega
theorem conv_bytes (s : ByteArray) (hs : s.size ≤ 140737488355328) (w : World) : ∃ c W', (convert 9 27 (.string s)).run Tryd.prog w = .ok (.slice (some ⟨w.heap.size, 0, none⟩) s.size c) W' ∧
    Rd .u8 W' (.slice (some ⟨w.heap.size, 0, none⟩) s.size c) (bytesOf s) ∧ Below w.heap.size w W' ∧ W'.heap.size = w.heap.size + 1 := by
  refine ⟨_, _, Lib.run_convert_string_bytes w 9 27 5 s Tryd.underlying9 Tryd.underlying27 Tryd.underlying5, ⟨_, _, by rw [bytesOf_len], ?_, by rw [bytesOf_len]; exact hs, .inr ⟨w.heap.size, 0, rfl, by rw [Lib.bytesWorld_size]; omega, ?_⟩⟩, ?_, Lib.bytesWorld_size _ _ _⟩
  · rw [bytesOf_len]
    exact grownCap_ge _ _ _ _
  · intro j hj
    rw [bytesOf_len] at hj
    rw [Nat.zero_add, Lib.bytesWorld_cell _ _ _ _ hj]
    simp [bytesOf, List.getD_eq_getElem?_getD, hj]
  · exact ⟨rfl, rfl, rfl, by rw [Lib.bytesWorld_size]; omega, fun k hk => Lib.bytesWorld_at_old _ _ _ _ hk⟩
def cleanC (r : Int) : Bool := decide (32 ≤ r) && (decide (r < 127) || decide (159 < r))
def mayK (k : KeyV) : Bool :=
  match utfAll (bytesOf k.text) with
  | none => false
  | some l => l.all cleanC && decide (l.length ≤ 8) && textC k.shifted && textC k.base && decide (0 ≤ k.mods) && decide (k.mods ≤ 255) && decide (1 ≤ k.type) && decide (k.type ≤ 3) && ((klook k.code).kind != 0)
theorem mods_May (k : KeyV) (h : k.ok) (hs : k.text.size ≤ 1048576) (w : World) : Calls Tryd.prog 16 #[k.v] w fun e w' => e = .returned (.bool (mayK k)) ∧ Below w.heap.size w w' := by
  obtain ⟨code, mods, type, shifted, base, text⟩ := k
  simp only [KeyV.v] at hs ⊢
  obtain ⟨cc, W1, hconv, hrd, hb1, hz1⟩ := conv_bytes text (by omega) (w.alloc (Obj.cells #[Value.int .i64 code, Value.int .i64 mods, Value.int .i64 type, Value.int .i64 shifted, Value.int .i64 base, Value.string text] 25))
  rw [World.size_alloc] at hconv hrd hz1
  have hAll := Lib.hid (utf_All (bytesOf text) _ W1 hrd (bytesOf_range text) (by intro k hk; simp only [blkOf] at hk; rw [hz1, hk]; show w.heap.size + 1 < _; omega) (by rw [bytesOf_len]; exact hs))
  have hM : Hid (mayK ⟨code, mods, type, shifted, base, text⟩ = (match utfAll (bytesOf text) with
    | none => false
    | some l => l.all cleanC && decide (l.length ≤ 8) && textC shifted && textC base && decide (0 ≤ mods) && decide (mods ≤ 255) && decide (1 ≤ type) && decide (type ≤ 3) && ((klook code).kind != 0))) := rfl
  generalize mayK ⟨code, mods, type, shifted, base, text⟩ = X at hM ⊢
  generalize utfAll (bytesOf text) = U at hAll hM
  have hSh := Lib.hid (mods_May1 shifted)
  have hBa := Lib.hid (mods_May1 base)
  generalize textC shifted = tS at hSh hM
  generalize textC base = tB at hBa hM
  have hL := Lib.hid (keys_Look code)
  have hF := field_kind
  generalize klook code = L at hL hM
  obtain ⟨kd, fi, nu, ch, ke⟩ := L
  simp only [KEnt.v] at hL hM
  clear hrd
  go_enter Tryd.func16, Tryd.ntmps16
  cases U with
  | none =>
    go_wp2_with (first | (go_at_call 35; refine hAll.out.mono ?_; rintro e w2 ⟨u, rfl, huo, hb2⟩; obtain ⟨ua, uc, rfl⟩ := huo.rd.len))
    refine wp_loop_rounds 1 ?_
    iterate 1 (rw [rounds_succ]; go_wp2)
    go_ret
    rw [hM.out]
    exact ⟨rfl, below_then (below_then (below_alloc (Below.refl _ _) _) hb1) hb2⟩
  | some l =>
    go_wp2_with (first | (go_at_call 35; refine hAll.out.mono ?_; rintro e w2 ⟨u, rfl, huo, hb2⟩; obtain ⟨ua, uc, rfl⟩ := huo.rd.len))
    have hrd : Rd .i64 w2 (.slice ua l.length uc) l := huo.rd
    have hn := Lib.hid huo.1
    obtain ⟨n, hnn⟩ : ∃ n, l.length = n := ⟨_, rfl⟩
    have hld : Hid (∀ i, i < n → ∃ b o, ua = some ⟨b, o, none⟩ ∧ w2.cell? ⟨b, o + i, none⟩ = some (.int .i64 (l.getD i 0))) := by
      intro i hi
      obtain ⟨a, c, e, h1, h2, h3⟩ := hrd
      injection e with e1 e2 e3
      rcases h3 with h3 | ⟨b, o, ha, hlt, hc⟩
      · rw [h3] at hnn; simp at hnn; omega
      · exact ⟨b, o, by rw [e1, ha], hc i (by omega)⟩
    have hnb : Hid (n ≤ 140737488355328) := by rw [← hnn]; exact hn.out
    have hk := below_then hb1 hb2
    have q := key_cells hk
    obtain ⟨q0, q1, q2, q3, q4, q5⟩ := q
    have hBB := below_then (below_then (below_alloc (Below.refl _ w) _) hb1) hb2
    have hl : Hid (l.length = n) := hnn
    simp only [Option.getD_some, hnn]
    clear huo hrd hb1 hb2 hconv hz1 hAll hn hnn
    go_loopg [5, 17] (n + 1) (fun g s5 s17 wr => ∃ i : Nat, s17 = .int .i64 i ∧ s5 = .bool ((l.take i).all cleanC) ∧ i ≤ n ∧ n - i < g ∧ w2 = wr)
    case atStart => exact ⟨0, rfl, rfl, by omega, by omega, rfl⟩
    case round =>
      obtain ⟨i, rfl, rfl, hi, hg, rfl⟩ := hrel
      have hnI : (n : Int) ≤ 140737488355328 := by have := hnb.out; omega
      by_cases hin : i < n
      · have hinI : (i : Int) < n := by omega
        obtain ⟨b, o, rfl, hcell⟩ := hld.out i hin
        obtain ⟨x, hx⟩ : ∃ x, l[i]? = some x := ⟨_, List.getElem?_eq_getElem (by rw [hl.out]; exact hin)⟩
        have hxd : l.getD i 0 = x := by rw [List.getD_eq_getElem?_getD, hx]; rfl
        rw [hxd] at hcell
        have htk : Hid ((l.take (i + 1)).all cleanC = ((l.take i).all cleanC && cleanC x)) := by
          show _ = _
          rw [List.take_add_one, hx, List.all_append]; simp
        clear hx hxd
        generalize (l.take i).all cleanC = B at htk ⊢
        have hB : B = true ∨ B = false := by cases B <;> simp
        rcases hB with rfl | rfl
        all_goals go_wp2
        all_goals
          go_roundg (n - i)
          case measure => omega
          case rel =>
            refine ⟨i + 1, by simp, ?_, by omega, by omega, rfl⟩
            rw [htk.out]
            refine congrArg Value.bool ?_
            unfold cleanC
            first | rfl | (simp; done) | (simp; omega) | (simp_all; done) | (simp_all; omega)
      · have : i = n := by omega
        subst this
        have htl : l.take i = l := by rw [← hl.out, List.take_length]
        rw [htl]
        clear htl hld hi hg hin hnb
        have hlI : (l.length : Int) = (i : Int) := by have := hl.out; omega
        rw [show (decide (l.length ≤ 8)) = decide ((i : Int) ≤ 8) from by rw [hl.out]; simp; omega] at hM
        clear hl hlI
        generalize l.all cleanC = B at hM ⊢
        have hB : B = true ∨ B = false := by cases B <;> simp
        have hS : tS = true ∨ tS = false := by cases tS <;> simp
        have hT : tB = true ∨ tB = false := by cases tB <;> simp
        have hI : (i : Int) ≤ 8 ∨ 8 < (i : Int) := by omega
        have fin : ∀ (b : Bool) (W : World), b = X → Below w.heap.size w W → (Ending.returned (Value.bool b) = Ending.returned (Value.bool X) ∧ Below w.heap.size w W) := fun b W h hb => ⟨by rw [h], hb⟩
        have hcase : (B = true ∧ (i : Int) ≤ 8 ∧ tS = true ∧ tB = true) ∨ (B = true ∧ (i : Int) ≤ 8 ∧ tS = true ∧ tB = false) ∨ (B = true ∧ (i : Int) ≤ 8 ∧ tS = false) ∨ (B = true ∧ 8 < (i : Int)) ∨ B = false := by
          rcases hB with h | h <;> rcases hI with h1 | h1 <;> rcases hS with h2 | h2 <;> rcases hT with h3 | h3 <;> simp [h, h1, h2, h3]
        clear hB hS hT hI
        rcases hcase with ⟨rfl, hI, rfl, rfl⟩ | ⟨rfl, hI, rfl, rfl⟩ | ⟨rfl, hI, rfl⟩ | ⟨rfl, hI⟩ | rfl
        all_goals
          go_wp2_with (first | (go_at_call 34; refine (hSh.out _).mono ?_; rintro e w3 ⟨rfl, hb3⟩; clear hSh; obtain ⟨r0, r1, r2, r3, r4, r5⟩ := key_cells (below_then hk hb3)) | (go_at_call 34; refine (hBa.out _).mono ?_; rintro e w4 ⟨rfl, hb4⟩; clear hBa; obtain ⟨s0, s1, s2, s3, s4, s5⟩ := key_cells (below_then (below_then hk hb3) hb4)) | (go_at_call 8; refine (hL.out _).mono ?_; rintro e w5 ⟨rfl, hb5⟩))
        all_goals
          go_ret
          refine fin _ _ ?_ (by first | exact below_then (below_then (below_then hBB hb3) hb4) hb5 | exact below_then (below_then hBB hb3) hb4 | exact below_then hBB hb3 | exact hBB)
          rw [hM.out]
          first | rfl | (simp; done) | (simp; omega) | (simp_all; done) | (simp_all; omega)
end Go.Proofs.YthllkfbegdmdkaaDoor
