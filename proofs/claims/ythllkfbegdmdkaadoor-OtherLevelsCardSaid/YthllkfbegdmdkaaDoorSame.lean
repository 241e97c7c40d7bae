/- slices.EqualFunc over lists of parts; wire.Arg, wire.Same. -/
import Derived.Test.YthllkfbegdmdkaaDoorListed
import Derived.Test.YthllkfbegdmdkaaDoorShape
import Derived.Test.YthllkfbegdmdkaaDoorMods
import Derived.Deep.LoopGhost
namespace Go.Proofs.YthllkfbegdmdkaaDoor
open Go.RowKit
set_option linter.unusedSimpArgs false
set_option linter.unusedVariables false
set_option maxRecDepth 100000
set_option maxHeartbeats 4000000

def argH (l : List Int) (o : Int) : Int := match l with | x :: _ => if x < 0 then o else x | [] => o
def argB (L : List (List Int)) (i : Nat) (o : Int) : Int := match L[i]? with | some l => argH l o | none => o
theorem wire_Arg (s : SeqS) (pv : Value) (i : Nat) (o : Int) (w : World) (hR : RdRows w pv s.params) (hi : i ≤ 1000) :
    Calls Tryd.prog 11 #[s.v pv, .int .i64 i, .int .i64 o] w fun e w' => e = .returned (.int .i64 (argB s.params i o)) ∧ Below w.heap.size w w' := by
  unfold SeqS.v
  generalize s.params = L at *
  obtain ⟨a, c, rfl⟩ := hR.len
  have hiI : (i : Int) ≤ 1000 := by omega
  have hi0 : (0 : Int) ≤ i := by omega
  generalize ba s.inter = I at *
  generalize ba s.data = D at *
  generalize (s.priv.toNat : Int) = P
  generalize (s.final.toNat : Int) = F
  generalize s.kind = k
  rcases Nat.lt_or_ge i L.length with hlt | hge
  · have hltI : (i : Int) < L.length := by omega
    obtain ⟨x, hx⟩ : ∃ x, L[i]? = some x := ⟨_, List.getElem?_eq_getElem hlt⟩
    have hA : argB L i o = argH x o := by unfold argB; rw [hx]
    obtain ⟨b, of, u, rfl, hlb, hu, hRu⟩ := hR.at hx
    obtain ⟨ua, uc, rfl⟩ := hRu.lenp
    have hu' : ∀ W, Below w.heap.size w W → W.cell? ⟨b, of + i, none⟩ = some (.slice ua x.length uc) := fun W hW => (hW.cell (p := ⟨b, of + i, none⟩) hlb).trans hu
    have hcu := hu' _ (below_alloc (Below.refl _ w) (Obj.cells #[.int .i64 k, .int .u8 P, .slice (some ⟨b, of, none⟩) L.length c, .string I, .int .u8 F, .string D] 37))
    rw [hA]
    clear hR hu' hu hA
    cases x with
    | nil =>
      rw [show argH [] o = o from rfl]
      have hcu : (w.alloc (Obj.cells #[.int .i64 k, .int .u8 P, .slice (some ⟨b, of, none⟩) L.length c, .string I, .int .u8 F, .string D] 37)).cell? ⟨b, of + i, none⟩ = some (.slice ua 0 uc) := hcu
      generalize L.length = n at *
      clear hx hRu
      go_enter Tryd.func11, Tryd.ntmps11
      go_wp2
      go_ret
      exact ⟨rfl, below_alloc (Below.refl _ _) _⟩
    | cons y r =>
      obtain ⟨b2, o2, rfl, hl2, hc2⟩ := hRu.at (j := 0) (by simp)
      have hc2 := ((below_alloc (Below.refl _ w) (Obj.cells #[.int .i64 k, .int .u8 P, .slice (some ⟨b, of, none⟩) L.length c, .string I, .int .u8 F, .string D] 37)).cell (p := ⟨b2, o2 + 0, none⟩) hl2).trans hc2
      rw [show (y :: r).getD 0 0 = y from rfl, Nat.add_zero] at hc2
      have hml := hRu.le
      have hm0 : ¬ ((y :: r).length : Int) = 0 := by simp only [List.length_cons]; omega
      have hm1 : (0 : Int) < ((y :: r).length : Int) := by simp only [List.length_cons]; omega
      generalize (y :: r).length = m at *
      have hmB : ((m : Int) == 0) = false := by simp only [beq_eq_false_iff_ne, ne_eq]; exact hm0
      have hd1 : decide ((i : Int) < 0) = false := decide_eq_false (by omega)
      have hd2 : decide (L.length ≤ i) = false := decide_eq_false (by omega)
      generalize L.length = n at *
      clear hx hRu
      unfold argH
      simp only []
      by_cases hy : y < 0
      · rw [if_pos hy]
        go_enter Tryd.func11, Tryd.ntmps11
        go_wp2
        go_ret
        exact ⟨rfl, below_alloc (Below.refl _ _) _⟩
      · rw [if_neg hy]
        go_enter Tryd.func11, Tryd.ntmps11
        go_wp2
        go_ret
        exact ⟨rfl, below_alloc (Below.refl _ _) _⟩
  · have hA : argB L i o = o := by unfold argB; rw [List.getElem?_eq_none hge]
    have hgeI : (L.length : Int) ≤ i := by omega
    rw [hA]
    generalize L.length = n at *
    clear hR
    go_enter Tryd.func11, Tryd.ntmps11
    go_wp2
    go_ret
    exact ⟨rfl, below_alloc (Below.refl _ _) _⟩
theorem equal_rows (L M : List (List Int)) (v u : Value) (w : World) (h1 : RdRows w v L) (h2 : RdRows w u M) :
    Calls Tryd.prog 52 #[v, u, .func (.func 53) #[] #[]] w fun e w' => e = .returned (.bool (decide (L = M))) ∧ Below w.heap.size w w' := by
  obtain ⟨a, c, rfl⟩ := h1.len
  obtain ⟨a', c', rfl⟩ := h2.len
  have hle : L.length ≤ 1000000 := by obtain ⟨_, _, _, _, h, _⟩ := h1; exact h
  have hle2 : M.length ≤ 1000000 := by obtain ⟨_, _, _, _, h, _⟩ := h2; exact h
  by_cases hl : L.length = M.length
  · obtain ⟨n, hn⟩ : ∃ n, L.length = n := ⟨_, rfl⟩
    have hm : M.length = n := by omega
    have H1 := Lib.hid (show RdRows w (.slice a n c) L from by rw [← hn]; exact h1)
    have H2 := Lib.hid (show RdRows w (.slice a' n c') M from by rw [← hm]; exact h2)
    have HN := Lib.hid hn
    have HM := Lib.hid hm
    rw [hm, hn]
    have hnI : n ≤ 1000000 := by omega
    clear h1 h2 hle hle2 hl hn hm
    go_enter Tryd.func52, Tryd.ntmps52
    go_wp2
    go_loopg [17] (n + 1) (fun g s17 wr => ∃ i : Nat, s17 = .int .i64 i ∧ i ≤ n ∧ n - i < g ∧ L.take i = M.take i ∧ Below w.heap.size w wr)
    case atStart => exact ⟨0, rfl, by omega, by omega, rfl, Below.refl _ _⟩
    case round =>
      obtain ⟨i, rfl, hi, hg, htk, hb⟩ := hrel
      by_cases hin : i < n
      · have hinI : (i : Int) < n := by omega
        obtain ⟨x, hx⟩ : ∃ x, L[i]? = some x := ⟨_, List.getElem?_eq_getElem (by rw [HN.out]; exact hin)⟩
        obtain ⟨y, hy⟩ : ∃ y, M[i]? = some y := ⟨_, List.getElem?_eq_getElem (by rw [HM.out]; exact hin)⟩
        obtain ⟨b1, o1, u1, rfl, hb1, hc1, hR1⟩ := (H1.out.below hb).at hx
        obtain ⟨b2, o2, u2, rfl, hb2, hc2, hR2⟩ := (H2.out.below hb).at hy
        obtain ⟨a1, k1, rfl⟩ := hR1.lenp
        obtain ⟨a2, k2, rfl⟩ := hR2.lenp
        have hE := Lib.hid (eq_ints x y _ _ wr hR1 hR2)
        have hne := Lib.hid (show (x == y) = false → L ≠ M from fun h e => by
          rw [e, hy] at hx
          cases hx
          simp at h)
        have htk2 := Lib.hid (show (x == y) = true → L.take (i + 1) = M.take (i + 1) from fun h => by
          rw [List.take_add_one, List.take_add_one, hx, hy, htk, eq_of_beq h])
        have HB := Lib.hid hb
        clear hR1 hR2 hx hy htk hb
        generalize (x == y) = q at hE hne htk2
        cases q
        · go_wp2_with (first | (go_at_call 53; refine hE.out.mono ?_; rintro e w2 ⟨rfl, hb3⟩))
          go_ret
          exact ⟨by rw [decide_eq_false (hne.out trivial)]; rfl, HB.out.trans (hb3.mono HB.out.size)⟩
        · go_wp2_with (first | (go_at_call 53; refine hE.out.mono ?_; rintro e w2 ⟨rfl, hb3⟩))
          go_roundg (n - i)
          case measure => omega
          case rel => exact ⟨i + 1, by simp, by omega, by omega, htk2.out trivial, HB.out.trans (hb3.mono HB.out.size)⟩
      · obtain rfl : i = n := by omega
        go_wp2
        go_ret
        have e1 : L = M := by
          have e2 : L.take L.length = M.take M.length := by rw [HN.out, HM.out]; exact htk
          rwa [List.take_length, List.take_length] at e2
        exact ⟨by rw [decide_eq_true e1]; rfl, hb⟩
  · have hlI : ¬ ((L.length : Int) = M.length) := by omega
    have hq : decide (L = M) = false := decide_eq_false (fun e => hl (by rw [e]))
    rw [hq]
    clear h1 h2
    generalize L.length = n at *
    generalize M.length = m at *
    go_enter Tryd.func52, Tryd.ntmps52
    go_wp2
    go_ret
    exact ⟨rfl, Below.refl _ _⟩
theorem same_parts (s t : SeqS) : decide (s = t) = (decide (s.params = t.params) && (decide (s.kind = t.kind) && decide ((s.priv.toNat : Int) = t.priv.toNat) && decide ((s.final.toNat : Int) = t.final.toNat) && ((ba s.inter).toList == (ba t.inter).toList) && ((ba s.data).toList == (ba t.data).toList))) := by
  have hb : ∀ a b : BL, ((ba a).toList == (ba b).toList) = decide (a = b) := fun a b => by
    have e : ∀ l : BL, (ba l).toList = l := fun l => by rw [Lib.toList_data, ba_data]
    rw [e, e, Bool.eq_iff_iff]; simp
  have hu : ∀ a b : UInt8, ((a.toNat : Int) = b.toNat) = (a = b) := fun a b => propext ⟨fun h => UInt8.toNat_inj.1 (by omega), fun h => by rw [h]⟩
  simp only [hb, hu]
  cases s; cases t
  simp only [SeqS.mk.injEq]
  rw [Bool.eq_iff_iff]
  simp only [Bool.and_eq_true, decide_eq_true_eq]
  constructor
  · rintro ⟨h1, h2, h3, h4, h5, h6⟩; exact ⟨h3, ⟨⟨⟨h1, h2⟩, h5⟩, h4⟩, h6⟩
  · rintro ⟨h3, ⟨⟨⟨h1, h2⟩, h5⟩, h4⟩, h6⟩; exact ⟨h1, h2, h3, h4, h5, h6⟩
theorem two_cells {w w2 : World} {a b c d e f a' b' c' d' e' f' : Value} {t : TypeId} (hb : Below ((w.alloc (.cells #[a, b, c, d, e, f] t)).alloc (.cells #[a', b', c', d', e', f'] t)).heap.size ((w.alloc (.cells #[a, b, c, d, e, f] t)).alloc (.cells #[a', b', c', d', e', f'] t)) w2) :
    (w2.cell? ⟨w.heap.size, 0, none⟩ = some a ∧ w2.cell? ⟨w.heap.size, 1, none⟩ = some b ∧ w2.cell? ⟨w.heap.size, 2, none⟩ = some c ∧ w2.cell? ⟨w.heap.size, 3, none⟩ = some d ∧ w2.cell? ⟨w.heap.size, 4, none⟩ = some e ∧ w2.cell? ⟨w.heap.size, 5, none⟩ = some f) ∧
    (w2.cell? ⟨w.heap.size + 1, 0, none⟩ = some a' ∧ w2.cell? ⟨w.heap.size + 1, 1, none⟩ = some b' ∧ w2.cell? ⟨w.heap.size + 1, 2, none⟩ = some c' ∧ w2.cell? ⟨w.heap.size + 1, 3, none⟩ = some d' ∧ w2.cell? ⟨w.heap.size + 1, 4, none⟩ = some e' ∧ w2.cell? ⟨w.heap.size + 1, 5, none⟩ = some f') := by
  have h2 := key_cells hb
  rw [World.size_alloc] at h2
  exact ⟨key_cells (below_then (below_alloc (Below.refl _ _) _) hb), h2⟩
theorem wire_Same (s t : SeqS) (pv qv : Value) (w : World) (h1 : RdRows w pv s.params) (h2 : RdRows w qv t.params) :
    Calls Tryd.prog 30 #[s.v pv, t.v qv] w fun e w' => e = .returned (.bool (decide (s = t))) ∧ Below w.heap.size w w' := by
  have hX := Lib.hid (same_parts s t)
  have hE := Lib.hid (fun W (hb : Below w.heap.size w W) => equal_rows s.params t.params pv qv W (h1.below hb) (h2.below hb))
  obtain ⟨a, c, rfl⟩ := h1.len
  obtain ⟨a', c', rfl⟩ := h2.len
  unfold SeqS.v
  generalize decide (s = t) = X at *
  clear h1 h2
  generalize decide (s.params = t.params) = q at *
  generalize s.params.length = n at *
  generalize t.params.length = m at *
  generalize ba s.inter = I at *
  generalize ba s.data = D at *
  generalize ba t.inter = I' at *
  generalize ba t.data = D' at *
  generalize (s.priv.toNat : Int) = P at *
  generalize (s.final.toNat : Int) = F at *
  generalize s.kind = k at *
  generalize (t.priv.toNat : Int) = P' at *
  generalize (t.final.toNat : Int) = F' at *
  generalize t.kind = k' at *
  go_enter Tryd.func30, Tryd.ntmps30
  go_wp2_with (first | (go_at_call 52; ((with_reducible refine (hE.out _ (below_alloc (below_alloc (Below.refl _ _) _) _)).mono ?_); rintro e w2 ⟨rfl, hb2⟩; obtain ⟨⟨q0, q1, q2, q3, q4, q5⟩, ⟨r0, r1, r2, r3, r4, r5⟩⟩ := two_cells hb2)))
  all_goals
    go_ret
    refine ⟨Eq.trans (b := Ending.returned (Value.bool _)) rfl (congrArg (fun b => Ending.returned (Value.bool b)) ?_), below_then (below_alloc (below_alloc (Below.refl _ _) _) _) hb2⟩
    rw [hX.out]
    clear hX hE q0 q1 q2 q3 q4 q5 r0 r1 r2 r3 r4 r5 hb2
    try simp only [beq_iff_eq, beq_eq_false_iff_ne, ne_eq, Bool.not_eq_true', Bool.not_eq_false'] at *
    simp_all
end Go.Proofs.YthllkfbegdmdkaaDoor
