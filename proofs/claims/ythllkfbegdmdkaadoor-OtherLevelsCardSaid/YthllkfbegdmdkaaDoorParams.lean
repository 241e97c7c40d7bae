/- wire's reader: params. -/
import Derived.Test.YthllkfbegdmdkaaDoorSplit
import Derived.Test.YthllkfbegdmdkaaDoorRng2
import Derived.Test.YthllkfbegdmdkaaDoorHeld
import Derived.Test.YthllkfbegdmdkaaDoorUAll
import Derived.Stop.RegionWithIn
import Derived.Deep.DeepCutAuto
import Derived.Deep.RegionWith
import Derived.Deep.RegionHeld3
namespace Go.Proofs.YthllkfbegdmdkaaDoor
open Go.RowKit
set_option linter.unusedSimpArgs false
set_option linter.unusedVariables false
set_option maxRecDepth 100000
set_option maxHeartbeats 8000000
attribute [local go_sem] Oper.semAt_some

/-- A slice of slices of whole numbers whose blocks all lie in S. -/
def RdRowsS (S : Nat → Prop) (w : World) (v : Value) (L : List (List Int)) : Prop :=
  ∃ a c, v = .slice a L.length c ∧ L.length ≤ c ∧ L.length ≤ 1000000 ∧
    (L = [] ∨ ∃ b o, a = some ⟨b, o, none⟩ ∧ S b ∧ b < w.heap.size ∧ ∀ j l, L[j]? = some l → ∃ u, w.cell? ⟨b, o + j, none⟩ = some u ∧ Rd .i64 w u l ∧ ∀ q, blkOf u q → S q)
theorem RdRowsS.rd {S : Nat → Prop} {w : World} {v : Value} {L : List (List Int)} (h : RdRowsS S w v L) : RdRows w v L := by
  obtain ⟨a, c, e, h1, h2, h3⟩ := h
  refine ⟨a, c, e, h1, h2, h3.imp id ?_⟩
  rintro ⟨b, o, ha, _, hlt, hc⟩
  refine ⟨b, o, ha, hlt, fun j l hj => ?_⟩
  obtain ⟨u, hu, hr, _⟩ := hc j l hj
  exact ⟨u, hu, hr⟩
theorem RdRowsS.agree {S : Nat → Prop} {w w' : World} {v : Value} {L : List (List Int)} (h : RdRowsS S w v L) (hag : Agree S w w') : RdRowsS S w' v L := by
  obtain ⟨a, c, e, h1, h2, h3⟩ := h
  refine ⟨a, c, e, h1, h2, h3.imp id ?_⟩
  rintro ⟨b, o, ha, hs, hlt, hc⟩
  refine ⟨b, o, ha, hs, Nat.lt_of_lt_of_le hlt hag.size, fun j l hj => ?_⟩
  obtain ⟨u, hu, hr, hq⟩ := hc j l hj
  exact ⟨u, hag.cell (p := ⟨b, o + j, none⟩) hs hu, hr.agree hq hag, hq⟩
theorem RdRowsS.nil (S : Nat → Prop) (w : World) : RdRowsS S w (.slice none 0 0) [] := ⟨none, 0, rfl, Nat.zero_le _, Nat.zero_le _, .inl rfl⟩
/-- A list of the call's own. -/
def OwnInts (w : World) (base : Nat) (u : Value) (x : List Int) : Prop := w.ownsRow base 3 1 u x.length (x.map (Value.int .i64))
/-- What the outer loop holds, i parameters having been read. -/
def RowsOwn (A : World) (s : Nat) (Xs : List BL) (rows : List Value) : Prop :=
  rows.length = Xs.length ∧ ∀ (j : Nat) (x : BL) (u : Value), Xs[j]? = some x → rows[j]? = some u → OwnInts A s u ((splitB 58 x).map numberB)
def ParI (s g : Nat) (a : Option Addr) (n c at2 : Nat) (k : Int) (p1 : UInt8) (I : BL) (f : UInt8) (D : BL) (X : List BL) (w1 : World) (i : Nat) (cs : Nat → Prop) (A : World) : Prop :=
  ∃ (ua : Option Addr) (uc : Nat) (rows : List Value), RdrAt A g a n c at2 k p1 (.slice ua i uc) I f D ∧ A.ownsRow s 65 1 (.slice ua i uc) i rows ∧ RowsOwn A s (X.take i) rows ∧ i ≤ X.length ∧
    Agree (fun q => q ≠ g) w1 A ∧ (∀ q, cs q ↔ q = g ∨ (Value.slice ua i uc).ownBlock = some q ∨ ∃ u ∈ rows, u.ownBlock = some q)
theorem OwnInts.agree {S : Nat → Prop} {A B : World} {s : Nat} {u : Value} {x : List Int} (h : OwnInts A s u x) (hS : ∀ q, u.ownBlock = some q → S q) (hag : Agree S A B) : OwnInts B s u x := ownsRow_agree h hS hag
section
variable {s g : Nat} {a : Option Addr} {n c at2 : Nat} {k : Int} {p1 : UInt8} {I : BL} {f : UInt8} {D : BL} {X : List BL} {w1 : World} {i : Nat} {cs : Nat → Prop} {A A' : World}
theorem RowsOwn.agree {S : Nat → Prop} {Xs : List BL} {rows : List Value} (h : RowsOwn A s Xs rows) (hS : ∀ u ∈ rows, ∀ q, u.ownBlock = some q → S q) (hag : Agree S A A') : RowsOwn A' s Xs rows :=
  ⟨h.1, fun j x u hx hu => (h.2 j x u hx hu).agree (hS u (List.mem_of_getElem? hu)) hag⟩
theorem RowsOwn.lt {Xs : List BL} {rows : List Value} (h : RowsOwn A s Xs rows) {u : Value} (hu : u ∈ rows) {q : Nat} (hq : u.ownBlock = some q) : s ≤ q ∧ q < A.heap.size := by
  obtain ⟨j, hj, e⟩ := List.getElem_of_mem hu
  have hjx : j < Xs.length := by rw [← h.1]; exact hj
  exact (h.2 j _ u (List.getElem?_eq_getElem hjx) (by rw [List.getElem?_eq_getElem hj, e])).lt q hq
theorem RdrAt.agree {at_ : Nat} {p : UInt8} {pv : Value} {S : Nat → Prop} (h : RdrAt A g a n c at_ k p pv I f D) (hS : S g) (hag : Agree S A A') : RdrAt A' g a n c at_ k p pv I f D := (hag.block g h.lt hS).trans h
theorem ParI.lt (h : ParI s g a n c at2 k p1 I f D X w1 i cs A) {q : Nat} (hq : cs q) : q < A.heap.size := by
  obtain ⟨ua, uc, rows, h1, h2, h3, _, _, h6⟩ := h
  rcases (h6 q).1 hq with rfl | h | ⟨u, hu, h⟩
  · exact h1.lt
  · exact (h2.lt q h).2
  · exact (h3.lt hu h).2
theorem ParI.agree (hw : w1.heap.size = s) (h : ParI s g a n c at2 k p1 I f D X w1 i cs A) (hag : Agree (fun q => q < s ∨ cs q) A A') : ParI s g a n c at2 k p1 I f D X w1 i cs A' := by
  obtain ⟨ua, uc, rows, h1, h2, h3, h4, h5, h6⟩ := h
  refine ⟨ua, uc, rows, h1.agree (.inr ((h6 g).2 (.inl rfl))) hag, ownsRow_agree h2 (fun q hq => .inr ((h6 q).2 (.inr (.inl hq)))) hag, h3.agree (fun u hu q hq => .inr ((h6 q).2 (.inr (.inr ⟨u, hu, hq⟩)))) hag, h4, ?_, h6⟩
  refine ⟨hag.os.trans h5.os, hag.tape.trans h5.tape, hag.output.trans h5.output, Nat.le_trans h5.size hag.size, fun q hq hg => (hag.block q (Nat.lt_of_lt_of_le hq h5.size) (.inl (by omega))).trans (h5.block q hq hg)⟩
end
/-- What the inner loop holds, j numbers having been read. -/
def ParJ (h : Nat) (A2 : World) (xs : List BL) (j : Nat) (cs : Nat → Prop) (B : World) : Prop :=
  ∃ (va : Option Addr) (vc : Nat), Boxed B h 65 (.slice va j vc) ∧ B.ownsRow (h + 4) 3 1 (.slice va j vc) j (((xs.take j).map numberB).map (Value.int .i64)) ∧ j ≤ xs.length ∧
    Below h A2 B ∧ (∀ q, cs q ↔ q = h ∨ (Value.slice va j vc).ownBlock = some q)
section
variable {h : Nat} {A2 : World} {xs : List BL} {j : Nat} {cs : Nat → Prop} {A A' : World}
theorem ParJ.lt (hj : ParJ h A2 xs j cs A) {q : Nat} (hq : cs q) : q < A.heap.size := by
  obtain ⟨va, vc, h1, h2, _, _, h5⟩ := hj
  rcases (h5 q).1 hq with rfl | h
  · exact h1.lt
  · exact (h2.lt q h).2
theorem ParJ.agree (hh : A2.heap.size = h) (hj : ParJ h A2 xs j cs A) (hag : Agree (fun q => q < h + 1 ∨ cs q) A A') : ParJ h A2 xs j cs A' := by
  obtain ⟨va, vc, h1, h2, h3, h4, h5⟩ := hj
  exact ⟨va, vc, boxed_agree h1 (.inr ((h5 _).2 (.inl rfl))) hag, ownsRow_agree h2 (fun q hq => .inr ((h5 q).2 (.inr hq))) hag, h3, Agree.below h4 (by have := h4.size; omega) hag (fun q hq => .inl (by omega)), h5⟩
end
theorem ownsRow_base {w : World} {b0 b1 : Nat} {e : TypeId} {size : Nat} {v : Value} {n : Nat} {xs : List Value} (h : w.ownsRow b1 e size v n xs) (hb : b0 ≤ b1) : w.ownsRow b0 e size v n xs := by
  obtain ⟨hl, h⟩ := h
  refine ⟨hl, h.imp id ?_⟩
  rintro ⟨g, cap, cur, rfl, hb', hr⟩
  exact ⟨g, cap, cur, rfl, by omega, hr⟩
theorem own_apart {w : World} {b0 b1 : Nat} {e e' : TypeId} {size size' : Nat} {v v' : Value} {n n' : Nat} {xs xs' : List Value} (h : w.ownsRow b0 e size v n xs) (h' : w.ownsRow b1 e' size' v' n' xs') (hne : e ≠ e') {q : Nat} (hq : v.ownBlock = some q) : v'.ownBlock ≠ some q := by
  intro hq'
  rcases h.2 with ⟨rfl, _⟩ | ⟨g, cap, cur, rfl, hb, hh, _⟩
  · cases hq
  rcases h'.2 with ⟨rfl, _⟩ | ⟨g', cap', cur', rfl, hb', hh', _⟩
  · cases hq'
  simp only [Value.ownBlock, Option.some.injEq] at hq hq'
  subst hq hq'
  rw [hh] at hh'
  injection hh' with hh'
  injection hh' with _ e1 _
  exact hne e1
theorem splitB_mem_len (c : UInt8) : ∀ (l y : BL), y ∈ splitB c l → y.length ≤ l.length
  | [], y, h => by simp [splitB] at h; simp [h]
  | x :: r, y, h => by
    unfold splitB at h
    split at h
    · rcases List.mem_cons.1 h with rfl | h
      · simp
      · have := splitB_mem_len c r y h; simp; omega
    · split at h
      · rename_i he
        have := List.mem_singleton.1 h
        subst this; simp
      · rename_i z zs he
        rcases List.mem_cons.1 h with rfl | h
        · have := splitB_mem_len c r z (by rw [he]; exact List.mem_cons_self ..); simp; omega
        · have := splitB_mem_len c r y (by rw [he]; exact List.mem_cons_of_mem _ h); simp; omega
theorem splitB_len (c : UInt8) : ∀ (l : BL), (splitB c l).length ≤ l.length + 1
  | [] => by simp [splitB]
  | x :: r => by
    have := splitB_len c r
    unfold splitB
    split
    · simp; omega
    · split
      · simp
      · rename_i z zs he
        rw [he] at this
        simp at this ⊢
        omega
theorem RdRowsS.mono {S T : Nat → Prop} {w : World} {v : Value} {L : List (List Int)} (h : RdRowsS S w v L) (hT : ∀ q, S q → T q) : RdRowsS T w v L := by
  obtain ⟨a, c, e, h1, h2, h3⟩ := h
  refine ⟨a, c, e, h1, h2, h3.imp id ?_⟩
  rintro ⟨b, o, ha, hs, hlt, hc⟩
  refine ⟨b, o, ha, hT _ hs, hlt, fun j l hj => ?_⟩
  obtain ⟨u, hu, hr, hq⟩ := hc j l hj
  exact ⟨u, hu, hr, fun q hq' => hT q (hq q hq')⟩
theorem rows_done {A : World} {s g uc : Nat} {ua : Option Addr} {X : List BL} {rows : List Value} (hg : g ≤ s) (hb1 : ∀ x ∈ X, x.length ≤ 1000000) (hn : X.length ≤ 1000000) (h : A.ownsRow s 65 1 (.slice ua X.length uc) X.length rows) (hr : RowsOwn A s X rows) :
    RdRowsS (fun q => g ≤ q) A (.slice ua X.length uc) (X.map fun p => (splitB 58 p).map numberB) := by
  obtain ⟨hl, h⟩ := h
  rcases h with ⟨e, h0⟩ | ⟨b, cap, cur, e, hb, hh, hcap, hm, hs, ht⟩
  · injection e with e1 e2 e3
    have : X = [] := List.eq_nil_of_length_eq_zero h0
    subst this
    exact ⟨_, _, rfl, Nat.zero_le _, Nat.zero_le _, .inl rfl⟩
  · injection e with e1 e2 e3
    subst e1 e3
    refine ⟨_, _, by rw [List.length_map], by rw [List.length_map]; exact hcap, by rw [List.length_map]; exact hn, .inr ⟨b, 0, rfl, (show g ≤ b by omega), (Array.getElem?_eq_some_iff.1 hh).1, fun j l hj => ?_⟩⟩
    rw [List.getElem?_map] at hj
    obtain ⟨x, hx, rfl⟩ := Option.map_eq_some_iff.1 hj
    have hjx : j < X.length := (List.getElem?_eq_some_iff.1 hx).1
    have hjr : j < rows.length := by rw [hr.1]; exact hjx
    have ho := hr.2 j x rows[j] hx (List.getElem?_eq_getElem hjr)
    have hcu : cur[j]? = some rows[j] := by
      have h1 : (cur.toList.take (X.length * 1))[j]? = some rows[j] := by rw [ht]; exact List.getElem?_eq_getElem hjr
      rw [List.getElem?_take_of_lt (by omega)] at h1
      simpa using h1
    refine ⟨rows[j], by simp [World.cell?, hh, hcu], ?_, ?_⟩
    · have hxl := splitB_len 58 x
      have hxb := hb1 x (List.mem_of_getElem? hx)
      exact Own.rd (e := 3) (base := s) ⟨by rw [List.length_map]; omega, by have h2 := ho; unfold OwnInts at h2; exact h2⟩
    · intro q hq
      rcases ho.2 with ⟨e, _⟩ | ⟨b', cap', cur', e, hb', _⟩
      · rw [e] at hq; exact hq.elim
      · rw [e] at hq
        simp only [blkOf] at hq
        show g ≤ q
        omega
theorem RdrAt.drew' {w : World} {g : Nat} {a : Option Addr} {n c at_ : Nat} {k : Int} {p : UInt8} {pv : Value} {I : BL} {f : UInt8} {D : BL} (h : RdrAt w g a n c at_ k p pv I f D) : RdrAt w.drew g a n c at_ k p pv I f D := h
theorem RdrAt.set3 {w : World} {g : Nat} {a : Option Addr} {n c at_ : Nat} {k : Int} {p : UInt8} {pv : Value} {I : BL} {f : UInt8} {D : BL} (h : RdrAt w g a n c at_ k p pv I f D) (x : UInt8) : RdrAt (w.setCell ⟨g, 3, none⟩ (.int .u8 x.toNat)) g a n c at_ k x pv I f D := row_setCell h 3 _
theorem Rd.drew' {k : IntKind} {w : World} {v : Value} {xs : List Int} (h : Rd k w v xs) : Rd k w.drew v xs := h.below (below_drew (Below.refl _ _))
theorem Rd.drewN' {k : IntKind} {w : World} {v : Value} {xs : List Int} (h : Rd k w v xs) (q : Nat) : Rd k (w.drewN q) v xs := h.below (below_drewN (Below.refl _ _) q)
theorem reader_params (g : Nat) (a : Option Addr) (n c at_ : Nat) (k : Int) (p : UInt8) (I : BL) (f : UInt8) (D : BL) (b : BL) (w : World)
    (hS : RdrAt w g a n c at_ k p (.slice none 0 0) I f D) (hR : Rd .u8 w (.slice a n c) (bI b)) (hn : b.length = n) (hbg : ¬ blkOf (.slice a n c) g) (hbw : ∀ q, blkOf (.slice a n c) q → q < w.heap.size) (hat : at_ ≤ n) (hc : c ≤ 1000000000000000) (hn2 : n ≤ 900000)
    (hA : (a = none ∧ c = 0) ∨ ∃ bb o, a = some ⟨bb, o, none⟩) :
    Calls Tryd.prog 48 #[.pointer (some ⟨g, 0, none⟩)] w fun e w' => e = .returned (.tuple #[]) ∧
      ∃ pv, RdrAt w' g a n c (rdParams b ⟨at_, ⟨k, p, [], I, f, D⟩⟩).at_ k (rdParams b ⟨at_, ⟨k, p, [], I, f, D⟩⟩).s.priv pv I f D ∧ RdRowsS (fun q => w.heap.size ≤ q) w' pv (rdParams b ⟨at_, ⟨k, p, [], I, f, D⟩⟩).s.params ∧ Agree (fun q => q ≠ g) w w' := by
  refine (callsIn_wide (n := 3)).1 ?_
  refine callsIn_of_wp_marks Tryd.func48 rfl trivial ?_
  simp only [Tryd.ntmps48, List.size_toArray, List.length_cons, List.length_nil, Nat.reduceAdd, Nat.reduceSub, Array.replicate_succ, Array.replicate_zero, List.push_toArray, List.append_toArray, List.nil_append, List.cons_append]
  have hgl := hS.lt
  have hnc : n ≤ c := by obtain ⟨_, _, e, h, _⟩ := hR; injection e with _ e2 e3; rw [← e2] at h; omega
  obtain ⟨st, hst⟩ : ∃ st, w.heap.size = st := ⟨_, rfl⟩
  obtain ⟨W0, hW0⟩ : ∃ W0, w.alloc (Obj.cells #[Value.pointer (some ⟨g, 0, none⟩)] 88) = W0 := ⟨_, rfl⟩
  have hB0 : Below w.heap.size w W0 := by rw [← hW0]; exact below_alloc (Below.refl _ _) _
  have hbox : Boxed W0 st 88 (.pointer (some ⟨g, 0, none⟩)) := by rw [← hW0, ← hst]; exact Boxed.new w _ _
  have hz0 : W0.heap.size = st + 1 := by rw [← hW0, World.size_alloc, hst]
  have hS0 : RdrAt W0 g a n c at_ k p (.slice none 0 0) I f D := (hB0.block g hgl).trans hS
  have hR0 := hR.below hB0
  have hPk := Lib.hid (cur_peek g a n c at_ b W0 hS0.c0 hS0.c1 hR0 hn (by omega))
  have hx := (peekB b at_).toNat_lt
  have hst1 : g < st := by omega
  have hagw : Agree (fun q => q ≠ g) w W0 := Agree.of_below hB0
  have hbx := hbox.cell
  clear hS hR
  have hrp : ∃ at1 p1, rdPriv b ⟨at_, ⟨k, p, [], I, f, D⟩⟩ = ⟨at1, ⟨k, p1, [], I, f, D⟩⟩ ∧ at1 ≤ n ∧ (60 ≤ (peekB b at_).toNat ∧ (peekB b at_).toNat ≤ 63 → at1 = at_ + 1 ∧ p1 = peekB b at_) ∧ (¬ (60 ≤ (peekB b at_).toNat ∧ (peekB b at_).toNat ≤ 63) → at1 = at_ ∧ p1 = p) := by
    by_cases hp : 60 ≤ (peekB b at_).toNat ∧ (peekB b at_).toNat ≤ 63
    · refine ⟨at_ + 1, peekB b at_, ?_, ?_, fun _ => ⟨rfl, rfl⟩, fun h => absurd hp h⟩
      · unfold rdPriv
        rw [if_pos]
        simp only [Bool.and_eq_true, decide_eq_true_eq, le_u8]
        exact hp
      · have : at_ < b.length := Nat.lt_of_not_le (fun h => by rw [peekB_end h] at hp; simp at hp)
        omega
    · refine ⟨at_, p, ?_, hat, fun h => absurd h hp, fun _ => ⟨rfl, rfl⟩⟩
      unfold rdPriv
      rw [if_neg]
      simp only [Bool.and_eq_true, decide_eq_true_eq, le_u8]
      exact hp
  obtain ⟨at1, p1, hpr, hat1, hp1, hp2⟩ := hrp
  have hrd : rdParams b ⟨at_, ⟨k, p, [], I, f, D⟩⟩ = ⟨at1 + (runB b at1 48 59).length, ⟨k, p1, paramsB (runB b at1 48 59), I, f, D⟩⟩ := by
    unfold rdParams; rw [hpr]; unfold rdPar; simp
  rw [hrd]
  simp only []
  have HP1 := Lib.hid hp1
  have HP2 := Lib.hid hp2
  have hNx := Lib.hid (fun W hSW hRW => cur_next g a n c at_ b W (RdrAt.c0 hSW) (RdrAt.c1 (k := k) (p := p) (pv := .slice none 0 0) (I := I) (f := f) (D := D) hSW) (RdrAt.fr hSW 1) hRW hn (by omega))
  have HS0 := Lib.hid hS0
  have HR0 := Lib.hid hR0
  have HBX := Lib.hid hbox
  have HW := Lib.hid hW0
  have HB0 := Lib.hid hB0
  have HN := Lib.hid hn
  have HAW := Lib.hid hagw
  clear hp1 hp2 hpr hrd hS0 hR0 hbox hB0 hagw
  refine wpIn_wide.2 ?_
  go_upto_region 1 with fail
  rename_i Q1 K1 a1 K2 a2
  have tail : ∀ (s2 s7 s8 s9 s10 s11 s12 s13 s14 s15 s16 s17 s18 s19 s20 s21 s22 s23 s24 : Value) (W : World), RdrAt W g a n c at1 k p1 (.slice none 0 0) I f D → Agree (fun q => q ≠ g) W0 W →
      K1 { tmps := #[Value.pointer (some ⟨g, 0, none⟩), Value.pointer (some ⟨st, 0, none⟩), s2, undef, undef, undef, undef, s7, s8, s9, s10, s11, s12, s13, s14, s15, s16, s17, s18, s19, s20, s21, s22, s23, s24, undef, undef, undef, undef, undef, undef, undef, undef, undef, undef, undef, undef, undef, undef, undef, undef, undef, undef, undef, undef, undef, undef, undef, undef, undef, undef, undef, undef, undef], defers := [] } W := by
    intro s2 s7 s8 s9 s10 s11 s12 s13 s14 s15 s16 s17 s18 s19 s20 s21 s22 s23 s24 W hS1 hA1
    apply a1
    clear a1 a2 hPk hNx HP1 HP2 hx
    have hRun := Lib.hid (cur_run g a n c at1 k p1 (.slice none 0 0) I f D b 48 59 W hS1 (HR0.out.agree (fun x hx => by rintro rfl; exact hbg hx) hA1) HN.out hbg (by omega) hc hA)
    have hTl : (runB b at1 48 59).length ≤ n := by have := runB_len_le b at1 48 59 (by rw [HN.out]; exact hat1); have := HN.out; omega
    generalize hT : runB b at1 48 59 = T at *
    have HTT := Lib.hid hT
    clear hT
    have b0 : W.cell? ⟨st, 0, none⟩ = some (.pointer (some ⟨g, 0, none⟩)) := (boxed_agree HBX.out (by omega) hA1).cell
    by_cases hT0 : T = []
    · subst hT0
      have hE : ba ([] : BL) = ⟨#[]⟩ := rfl
      rw [hE] at hRun
      clear hS1 hE
      go_wp2_with (go_at_call 50; refine hRun.out.mono ?_; rintro e w1 ⟨rfl, hS2, hA2⟩)
      refine ⟨_, results_none rfl _ _ _, rfl, .slice none 0 0, ?_, ?_, ?_⟩
      · rw [HTT.out]; exact hS2
      · rw [HTT.out]; exact RdRowsS.nil _ _
      · exact (HAW.out.trans hA1).trans hA2
    · have hE : (ba T).toList.isEmpty = false := by rw [ba_empty]; cases T with
        | nil => exact absurd rfl hT0
        | cons x r => rfl
      have hSp := Lib.hid (strings_SplitSeq T 59)
      have hTba := Lib.hid (show ∀ l : BL, T = l → ba T = ba l from fun l h => by rw [h])
      clear hS1
      go_wp2_with (first | (go_at_call 50; refine hRun.out.mono ?_; rintro e w1 ⟨rfl, hS2, hA2⟩) | (go_at_call 60; refine (hSp.out _).mono ?_; rintro e w2 ⟨rfl, rfl⟩))
      obtain ⟨s, hs⟩ : ∃ s, w1.heap.size = s := ⟨_, rfl⟩
      obtain ⟨W3, hW3⟩ : ∃ W3, ((w1.alloc (Obj.cells #[Value.string (ba T)] 9)).alloc (Obj.cells #[Value.string { data := #[59] }] 9)).alloc (Obj.cells #[Value.int IntKind.i64 0] 3) = W3 := ⟨_, rfl⟩
      rw [hW3, hs]
      have hB3 : Below s w1 W3 := by rw [← hW3, ← hs]; exact below_alloc (below_alloc (below_alloc (Below.refl _ _) _) _) _
      have hz3 : W3.heap.size = s + 3 := by rw [← hW3]; simp [hs]
      have x0 : Boxed W3 s 9 (.string (ba T)) := by rw [← hW3, ← hs]; exact ((Boxed.new w1 _ _).alloc _).alloc _
      have x1 : Boxed W3 (s + 1) 9 (.string ⟨#[59]⟩) := by
        rw [← hW3, ← hs]; have h := (Boxed.new (w1.alloc (Obj.cells #[Value.string (ba T)] 9)) 9 (.string ⟨#[59]⟩)).alloc (Obj.cells #[Value.int IntKind.i64 0] 3); rwa [World.size_alloc] at h
      have x2 : Boxed W3 (s + 2) 3 (.int .i64 0) := by
        rw [← hW3, ← hs]; have h := Boxed.new ((w1.alloc (Obj.cells #[Value.string (ba T)] 9)).alloc (Obj.cells #[Value.string { data := #[59] }] 9)) 3 (.int .i64 0); rw [World.size_alloc, World.size_alloc] at h; exact h
      have hS3 : RdrAt W3 g a n c (at1 + T.length) k p1 (.slice none 0 0) I f D := (hB3.block g (by have := hS2.lt; omega)).trans hS2
      have hgs : g < s := by have := hS2.lt; omega
      have hsts : st < s := by have := hA1.size; have := hA2.size; omega
      clear hW3
      obtain ⟨X, hX⟩ : ∃ X, splitB 59 T = X := ⟨_, rfl⟩
      have hsq : ∀ o, SeqC Tryd.prog 82 #[.pointer (some ⟨s + 1, 0, none⟩), .pointer (some ⟨s, 0, none⟩), .pointer (some ⟨s + 2, 0, none⟩)] (X.map fun x => #[.string (ba x)]) s (fun q => q = s ∨ q = s + 1 ∨ q = s + 2) ((W3.alloc (.deferred (some []))).alloc (.loop o)) := by
        intro o
        rw [← hX]
        exact split1_seq s (s + 1) (s + 2) 59 T _ s (Nat.le_refl _) (by omega) (by omega) (by omega) (by omega) (((x0.alloc _).alloc _).cell) (((x0.alloc _).alloc _).frozen) (((x1.alloc _).alloc _).cell) (((x2.alloc _).alloc _).cell) (by omega)
      refine (wpIn_wide (n := 3)).1 ?_
      refine wpIn_rangeR (gf := 82) (lb := #[.pointer (some ⟨s + 1, 0, none⟩), .pointer (some ⟨s, 0, none⟩), .pointer (some ⟨s + 2, 0, none⟩)]) (ys := X.map fun x => #[.string (ba x)]) (n₀ := s) (S₀ := fun q => q = s ∨ q = s + 1 ∨ q = s + 2) rfl (Go.Proofs.enters_of Tryd.func82 (by kernel_rfl) rfl) (by omega) ?hS hsq ?hps
        (ParI s g a n c (at1 + T.length) k p1 I f D X w1) (fun _ _ _ _ => False) (fun q => q = g) ?hSc ?hIc ?hIxc ?hI ?hIx ?h0 ?hround ?hdone ?hstop
      case hS => rintro q (rfl | rfl | rfl) <;> omega
      case hps => intro y hy; obtain ⟨x, _, rfl⟩ := List.mem_map.1 hy; rfl
      case hSc => rintro q (rfl | rfl | rfl) <;> omega
      case hIc => exact fun i cs A h q hq => h.lt hq
      case hIxc => exact fun _ _ _ _ h => h.elim
      case hI => exact fun i cs A A' h hag => h.agree hs hag
      case hIx => exact fun _ _ _ _ _ h => h.elim
      case h0 => exact ⟨none, 0, [], hS3, World.ownsRow_nil _ _ _ _, ⟨by simp, fun j x u hx _ => by simp at hx⟩, Nat.zero_le _, by rw [← hs] at hB3; exact Agree.of_below hB3, fun q => by simp [Value.ownBlock]⟩
      case hstop => exact fun _ _ _ _ _ h => h.elim
      case hdone =>
        rintro cs A ⟨ua, uc, rows, p1', p2', p3', p4', p5', p6'⟩ hK hcn
        gi_wp2
        rw [List.length_map] at p1' p2' p3' p4' p6'
        rw [List.take_length] at p3'
        refine ⟨by simp, .inl ⟨_, _, rfl, run_takeDeferred hK, ?_⟩⟩
        have e4 : Agree (fun q => q ≠ W3.heap.size) A (A.putObj W3.heap.size (.deferred none)) := (Agree.refl _ _).putObj (fun h => h rfl) _
        have e5 : Agree (fun q => q ≠ W3.heap.size ∧ q ≠ g) A (A.putObj W3.heap.size (.deferred none)) := e4.mono (fun q _ h => h.1)
        have hown : ∀ q, cs q → q ≠ W3.heap.size := fun q hq e => by rw [e] at hq; exact hcn hq
        refine ⟨_, results_none rfl _ _ _, rfl, .slice ua X.length uc, ?_, ?_, ?_⟩
        · rw [HTT.out]; exact p1'.agree (hown g ((p6' g).2 (.inl rfl))) e4
        · rw [HTT.out]; unfold paramsB; rw [if_neg hT0, hX]
          have hown2 := ownsRow_agree p2' (fun q hq => hown q ((p6' q).2 (.inr (.inl hq)))) e4
          have hrows2 := p3'.agree (fun u hu q hq => hown q ((p6' q).2 (.inr (.inr ⟨u, hu, hq⟩)))) e4
          exact rows_done (g := w.heap.size) (by omega) (fun x hx => by have := splitB_mem_len 59 T x (by rw [hX]; exact hx); omega) (by have := splitB_len 59 T; rw [hX] at this; omega) hown2 hrows2
        · have hAf : Agree (fun q => q ≠ g) w1 (A.putObj W3.heap.size (.deferred none)) :=
            ⟨e4.os.trans p5'.os, e4.tape.trans p5'.tape, e4.output.trans p5'.output, Nat.le_trans p5'.size e4.size, fun q hq hg => (e4.block q (Nat.lt_of_lt_of_le hq p5'.size) (by omega)).trans (p5'.block q hq hg)⟩
          exact ((HAW.out.trans hA1).trans hA2).trans hAf
      case hround =>
        intro i y cs A K hy hi hsz hncl hk
        rw [List.getElem?_map] at hy
        obtain ⟨x, hp, rfl⟩ := Option.map_eq_some_iff.1 hy
        have htake : X.take (i + 1) = X.take i ++ [x] := by rw [List.take_add_one, hp]; rfl
        gi_wp2
        refine hk _ A (Agree.refl _ _) hi ?_
        intro A2 hs2 hag2 hi2 hrr
        clear hi hs2 hag2 hk hy
        obtain ⟨rr, hrr⟩ := hrr
        have hi2c := hi2
        obtain ⟨ua, uc, rows, p1', p2', p3', p4', p5', p6'⟩ := hi2
        obtain ⟨h, hh⟩ : ∃ h, A2.heap.size = h := ⟨_, rfl⟩
        have hSp2 := Lib.hid (strings_SplitSeq x 58)
        gi_wp2_with (first | (refine ⟨trivial, ?_⟩; gi_at_call 60; refine (CallsIn.inRound _ (callsIn_wide.2 (hSp2.out _))).mono ?_; rintro e w2 ⟨rfl, rfl⟩))
        obtain ⟨W4, hW4⟩ : ∃ W4, (((A2.alloc (Obj.cells #[Value.slice none 0 0] 65)).alloc (Obj.cells #[Value.string (ba x)] 9)).alloc (Obj.cells #[Value.string { data := #[58] }] 9)).alloc (Obj.cells #[Value.int IntKind.i64 0] 3) = W4 := ⟨_, rfl⟩
        rw [hW4]
        have hB4 : Below h A2 W4 := by rw [← hW4, ← hh]; exact below_alloc (below_alloc (below_alloc (below_alloc (Below.refl _ _) _) _) _) _
        have hz4 : W4.heap.size = h + 4 := by rw [← hW4]; simp [hh]
        have y0 : Boxed W4 h 65 (.slice none 0 0) := by rw [← hW4, ← hh]; exact (((Boxed.new A2 _ _).alloc _).alloc _).alloc _
        have y1 : Boxed W4 (h + 1) 9 (.string (ba x)) := by
          rw [← hW4, ← hh]; have q := ((Boxed.new (A2.alloc (Obj.cells #[Value.slice none 0 0] 65)) 9 (.string (ba x))).alloc (Obj.cells #[Value.string { data := #[58] }] 9)).alloc (Obj.cells #[Value.int IntKind.i64 0] 3); rwa [World.size_alloc] at q
        have y2 : Boxed W4 (h + 2) 9 (.string ⟨#[58]⟩) := by
          rw [← hW4, ← hh]; have q := (Boxed.new ((A2.alloc (Obj.cells #[Value.slice none 0 0] 65)).alloc (Obj.cells #[Value.string (ba x)] 9)) 9 (.string ⟨#[58]⟩)).alloc (Obj.cells #[Value.int IntKind.i64 0] 3); rw [World.size_alloc, World.size_alloc] at q; exact q
        have y3 : Boxed W4 (h + 3) 3 (.int .i64 0) := by
          rw [← hW4, ← hh]; have q := Boxed.new (((A2.alloc (Obj.cells #[Value.slice none 0 0] 65)).alloc (Obj.cells #[Value.string (ba x)] 9)).alloc (Obj.cells #[Value.string { data := #[58] }] 9)) 3 (.int .i64 0); rw [World.size_alloc, World.size_alloc, World.size_alloc] at q; exact q
        clear hW4
        have hxT : x.length ≤ T.length := splitB_mem_len 59 T x (by rw [hX]; exact List.mem_of_getElem? hp)
        obtain ⟨xs, hxs⟩ : ∃ xs, splitB 58 x = xs := ⟨_, rfl⟩
        have hxl : xs.length ≤ x.length + 1 := by rw [← hxs]; exact splitB_len 58 x
        have hsq2 : ∀ o, SeqC Tryd.prog 82 #[.pointer (some ⟨h + 1 + 1, 0, none⟩), .pointer (some ⟨h + 1, 0, none⟩), .pointer (some ⟨h + 1 + 2, 0, none⟩)] (xs.map fun x => #[.string (ba x)]) (h + 1) (fun q => q = h + 1 ∨ q = h + 1 + 1 ∨ q = h + 1 + 2) (W4.alloc (.loop o)) := by
          intro o
          rw [← hxs]
          exact split1_seq (h + 1) (h + 1 + 1) (h + 1 + 2) 58 x _ (h + 1) (Nat.le_refl _) (by omega) (by omega) (by omega) (by omega) ((y1.alloc _).cell) ((y1.alloc _).frozen) ((y2.alloc _).cell) ((y3.alloc _).cell) (by omega)
        have hrr4 : W4.heap[W3.heap.size + 1]? = some (.loop rr) := by
          have hlt := (Array.getElem?_eq_some_iff.1 hrr).1
          exact (hB4.block _ (by omega)).trans hrr
        refine wpIn_rangeN (l₀ := W3.heap.size + 1) (r₀ := rr) hrr4 (gf := 82) (lb := #[.pointer (some ⟨h + 1 + 1, 0, none⟩), .pointer (some ⟨h + 1, 0, none⟩), .pointer (some ⟨h + 1 + 2, 0, none⟩)]) (ys := xs.map fun x => #[.string (ba x)]) (n₀ := h + 1) (S₀ := fun q => q = h + 1 ∨ q = h + 1 + 1 ∨ q = h + 1 + 2) rfl (Go.Proofs.enters_of Tryd.func82 (by kernel_rfl) rfl) (by omega) ?hS2 hsq2 ?hps2
          (ParJ h A2 xs) (fun _ _ _ _ => False) (fun q => q = h) ?hSc2 ?hIc2 ?hIxc2 ?hI2 ?hIx2 ?h02 ?hround2 ?hdone2 ?hstop2
        case hS2 => rintro q (rfl | rfl | rfl) <;> omega
        case hps2 => intro y hy; obtain ⟨x, _, rfl⟩ := List.mem_map.1 hy; rfl
        case hSc2 => rintro q (rfl | rfl | rfl) <;> omega
        case hIc2 => exact fun i cs A h q hq => h.lt hq
        case hIxc2 => exact fun _ _ _ _ h => h.elim
        case hI2 => exact fun i cs A A' h hag => h.agree hh hag
        case hIx2 => exact fun _ _ _ _ _ h => h.elim
        case h02 => exact ⟨none, 0, y0, World.ownsRow_nil _ _ _ _, Nat.zero_le _, hB4, fun q => by simp [Value.ownBlock]⟩
        case hstop2 => exact fun _ _ _ _ _ h => h.elim
        case hdone2 =>
          rintro cs2 B ⟨va, vc, k1, k2, k3, k4, k5⟩
          rw [List.length_map] at k1 k2 k3 k5
          rw [List.take_length] at k2
          gi_wp2
          have hsB := k4.size
          have hBA : Agree (fun _ => True) A2 B.drew := (Agree.of_below (by rw [hh]; exact k4)).drew
          have q1 : RdrAt B.drew g a n c (at1 + T.length) k p1 (.slice ua i uc) I f D := p1'.agree trivial hBA
          have q2 := ownsRow_agree p2' (fun _ _ => trivial) hBA
          have q3 := p3'.agree (fun _ _ _ _ => trivial) hBA
          have q4 : Boxed B.drew h 65 (.slice va xs.length vc) := k1
          have q5 : OwnInts B.drew (h + 4) (.slice va xs.length vc) (xs.map numberB) := by unfold OwnInts; rw [List.length_map]; exact k2
          have hsA : s ≤ A2.heap.size := by rw [← hs]; exact p5'.size
          have hua : ∀ q, (Value.slice ua i uc).ownBlock = some q → s ≤ q ∧ q < h := fun q hq => by have := p2'.lt q hq; omega
          have bs : B.drew.cell? ⟨st, 0, none⟩ = some (.pointer (some ⟨g, 0, none⟩)) := by
            have r1 := boxed_agree (S := fun q => q ≠ g) HBX.out (by omega) ((hA1.trans hA2).trans p5')
            exact (boxed_agree r1 trivial hBA).cell
          have b4 : B.drew.cell? ⟨g, 4, none⟩ = some (.slice ua i uc) := by rw [cell_of_row _ _ _ _ _ _ q1]; rfl
          have hXi : i < X.length := (List.getElem?_eq_some_iff.1 hp).1
          have hXl : X.length ≤ T.length + 1 := by rw [← hX]; exact splitB_len 59 T
          have hsBd : A2.heap.size ≤ B.drew.heap.size := hBA.size
          refine wpIn_region_held (L := 12) (S := fun w => w.cell? ⟨st, 0, none⟩ = some (.pointer (some ⟨g, 0, none⟩)) ∧ w.cell? ⟨g, 4, none⟩ = some (.slice ua i uc) ∧ w.cell? ⟨h, 0, none⟩ = some (.slice va xs.length vc)) rfl ?_
          have hSB : B.drew.cell? ⟨st, 0, none⟩ = some (.pointer (some ⟨g, 0, none⟩)) ∧ B.drew.cell? ⟨g, 4, none⟩ = some (.slice ua i uc) ∧ B.drew.cell? ⟨h, 0, none⟩ = some (.slice va xs.length vc) := ⟨bs, b4, q4.cell⟩
          generalize B.drew = Bd at *
          refine wpAnyInH_take (i := 0) (v := .pointer (some ⟨g, 0, none⟩)) (by kernel_rfl) (by kernel_rfl) rfl (by kernel_rfl) (by kernel_rfl) (by kernel_rfl) (fun _ _ _ h => h) ⟨Or.inl ⟨by rfl, ?_⟩, fun _ => rfl⟩ hSB ?_
          · rintro w ⟨z1, z2, z3⟩; clear hSB bs b4; go_simp
          refine wpAnyInH_take (i := 1) (v := .pointer (some ⟨g, 0, none⟩)) (by kernel_rfl) (by kernel_rfl) rfl (by kernel_rfl) (by kernel_rfl) (by kernel_rfl) (fun _ _ _ h => h) ⟨Or.inl ⟨by rfl, ?_⟩, fun _ => rfl⟩ hSB ?_
          · rintro w ⟨z1, z2, z3⟩; clear hSB bs b4; go_simp
          refine wpAnyInH_take (i := 2) (v := .pointer (some ⟨g, 0, none⟩)) (by kernel_rfl) (by kernel_rfl) rfl (by kernel_rfl) (by kernel_rfl) (by kernel_rfl) (fun _ _ _ h => h) ⟨Or.inl ⟨by rfl, ?_⟩, fun _ => rfl⟩ hSB ?_
          · rintro w ⟨z1, z2, z3⟩; clear hSB bs b4; go_simp
          refine wpAnyInH_take (i := 3) (v := .pointer (some ⟨g, 2, none⟩)) (by kernel_rfl) (by kernel_rfl) rfl (by kernel_rfl) (by kernel_rfl) (by kernel_rfl) (fun _ _ _ h => h) ⟨Or.inl ⟨by rfl, ?_⟩, fun _ => rfl⟩ hSB ?_
          · rintro w ⟨z1, z2, z3⟩; clear hSB bs b4; go_simp
          refine wpAnyInH_take (i := 4) (v := .pointer (some ⟨g, 4, none⟩)) (by kernel_rfl) (by kernel_rfl) rfl (by kernel_rfl) (by kernel_rfl) (by kernel_rfl) (fun _ _ _ h => h) ⟨Or.inl ⟨by rfl, ?_⟩, fun _ => rfl⟩ hSB ?_
          · rintro w ⟨z1, z2, z3⟩; clear hSB bs b4; go_simp
          refine wpAnyInH_take (i := 5) (v := .slice ua i uc) (by kernel_rfl) (by kernel_rfl) rfl (by kernel_rfl) (by kernel_rfl) (by kernel_rfl) (fun _ _ _ h => h) ⟨Or.inl ⟨by rfl, ?_⟩, fun _ => rfl⟩ hSB ?_
          · rintro w ⟨z1, z2, z3⟩; clear hSB bs b4; go_simp
          refine wpAnyInH_take (i := 6) (v := .slice va xs.length vc) (by kernel_rfl) (by kernel_rfl) rfl (by kernel_rfl) (by kernel_rfl) (by kernel_rfl) (fun _ _ _ h => h) ⟨Or.inl ⟨by rfl, ?_⟩, fun _ => rfl⟩ hSB ?_
          · rintro w ⟨z1, z2, z3⟩; clear hSB bs b4; go_simp
          refine wpAnyInH_list (i := 7) (by kernel_rfl) rfl rfl ?_
          gi_wp2
          have hSC : ∀ W', Agree (fun _ => True) Bd W' → W'.cell? ⟨st, 0, none⟩ = some (.pointer (some ⟨g, 0, none⟩)) ∧ W'.cell? ⟨g, 4, none⟩ = some (.slice ua i uc) ∧ W'.cell? ⟨h, 0, none⟩ = some (.slice va xs.length vc) :=
            fun W' hW' => ⟨hW'.cell trivial bs, hW'.cell trivial b4, hW'.cell trivial q4.cell⟩
          refine ⟨.inr (hSC _ ((Agree.refl _ _).alloc _)), ?_⟩
          refine wpAnyInH_list (i := 8) (by kernel_rfl) rfl rfl ?_
          obtain ⟨i0, hi0, hz0', hz1, hz2⟩ := info_parts infoInts
          refine wpListIn_append_lies _ rfl _ _ 35 rfl s 65 i0 _ 1 24 Tryd.underlying35 hi0 hz0' hz1 hz2 rfl (by decide) _ i _ rfl (q2.alloc _) ⟨Bd.heap.size, 0, none⟩ 1 1 [.slice va xs.length vc] rfl rfl (World.news_of_block (heap_alloc_new Bd _)) (by simp [Value.oneCell']) (by omega) (by unfold maxLen; omega) (by omega) (by simp; omega) (Bd.heap.size + 1) (by simp) ?_
          intro gg cap w6 hown' hgrow hat' hglt
          have hA6 : Agree (fun q => (Value.slice ua i uc).ownBlock ≠ some q) Bd w6 := ((Agree.refl _ _).alloc _).grown hgrow (fun q hq => .inl (fun e => e hq))
          have r1 : RdrAt w6 g a n c (at1 + T.length) k p1 (.slice ua i uc) I f D := q1.agree (fun e => by have := hua g e; omega) hA6
          have c4 : w6.cell? ⟨g, 4, none⟩ = some (.slice ua i uc) := by rw [cell_of_row _ _ _ _ _ _ r1]; rfl
          have f4 : w6.frozen? ⟨g, 4, none⟩ = false := r1.fr 4
          have hne1 : ∀ q, (Value.slice ua i uc).ownBlock = some q → q ≠ h ∧ q ≠ st := fun q hq => by have := hua q hq; omega
          have z6 : w6.cell? ⟨st, 0, none⟩ = some (.pointer (some ⟨g, 0, none⟩)) ∧ w6.cell? ⟨g, 4, none⟩ = some (.slice ua i uc) ∧ w6.cell? ⟨h, 0, none⟩ = some (.slice va xs.length vc) :=
            ⟨hA6.cell (fun e => (hne1 _ e).2 rfl) bs, c4, hA6.cell (fun e => (hne1 _ e).1 rfl) q4.cell⟩
          refine ⟨.inr z6, ?_⟩
          refine wpAnyInH_list (i := 9) (by kernel_rfl) rfl rfl ?_
          gi_wp2
          refine ⟨.inr z6, ?_⟩
          refine wpAnyInH_list (i := 10) (by kernel_rfl) rfl rfl ?_
          gi_wp2
          refine ⟨.inr z6, ?_⟩
          refine wpAnyInH_list (i := 11) (by kernel_rfl) rfl rfl ?_
          gi_wp2
          refine ⟨.inr z6, ?_⟩
          refine wpAnyInH_list (i := 12) (by kernel_rfl) rfl rfl ?_
          gi_wp2
          refine ⟨by kernel_rfl, ?_⟩
          have hZ : ∀ S : Nat → Prop, ¬ S g → Agree S w6 (w6.setCell ⟨g, 4, none⟩ (.slice (some ⟨gg, 0, none⟩) (i + 1) cap)) := fun S hS => (Agree.refl _ _).setCell (.inl hS) _
          have hgg : s ≤ gg := (hown'.lt gg rfl).1
          have t1 : RdrAt (w6.setCell ⟨g, 4, none⟩ (.slice (some ⟨gg, 0, none⟩) (i + 1) cap)) g a n c (at1 + T.length) k p1 (.slice (some ⟨gg, 0, none⟩) (i + 1) cap) I f D := row_setCell r1 4 _
          have t2 := ownsRow_agree (S := fun q => q ≠ g) hown' (fun q hq => by simp only [Value.ownBlock, Option.some.injEq] at hq; omega) (hZ _ (fun e => e rfl))
          have hA7 : Agree (fun q => q ≠ g ∧ (Value.slice ua i uc).ownBlock ≠ some q) Bd (w6.setCell ⟨g, 4, none⟩ (.slice (some ⟨gg, 0, none⟩) (i + 1) cap)) := (hA6.mono (fun q _ hq => hq.2)).trans (hZ _ (fun e => e.1 rfl))
          have t3 := q3.agree (S := fun q => q ≠ g ∧ (Value.slice ua i uc).ownBlock ≠ some q) (fun u hu q hq => by
            obtain ⟨j, hj, e⟩ := List.getElem_of_mem hu
            have hjx : j < (X.take i).length := by rw [← q3.1]; exact hj
            have ho := q3.2 j _ u (List.getElem?_eq_getElem hjx) (by rw [List.getElem?_eq_getElem hj, e])
            exact ⟨fun e => by have := (ho.lt q hq).1; omega, own_apart ho q2 (by decide) hq⟩) hA7
          have t5 : OwnInts (w6.setCell ⟨g, 4, none⟩ (.slice (some ⟨gg, 0, none⟩) (i + 1) cap)) s (.slice va xs.length vc) (xs.map numberB) :=
            (OwnInts.agree (show OwnInts Bd s _ _ from ownsRow_base q5 (by omega)) (fun q hq => ⟨fun e => by have := (q5.lt q hq).1; omega, fun e => by have := (q5.lt q hq).1; have := hua q e; omega⟩) hA7)
          have hA8 : Agree (fun q => q ≠ g ∧ (Value.slice ua i uc).ownBlock ≠ some q) A2 (w6.setCell ⟨g, 4, none⟩ (.slice (some ⟨gg, 0, none⟩) (i + 1) cap)) := (hBA.mono (fun _ _ _ => trivial)).trans hA7
          generalize w6.setCell ⟨g, 4, none⟩ (.slice (some ⟨gg, 0, none⟩) (i + 1) cap) = Z at *
          refine ⟨fun q => q = g ∨ q = gg ∨ (Value.slice va xs.length vc).ownBlock = some q ∨ ∃ u ∈ rows, u.ownBlock = some q, ⟨_, _, rows ++ [.slice va xs.length vc], t1, t2, ?_, hXi, ?_, ?_⟩, ?_, ?_⟩
          · rw [htake]
            refine ⟨by simp [q3.1], fun j y u hy hu => ?_⟩
            rcases Nat.lt_or_ge j (X.take i).length with hlt | hge
            · rw [List.getElem?_append_left hlt] at hy
              rw [List.getElem?_append_left (by rw [q3.1]; exact hlt)] at hu
              exact t3.2 j y u hy hu
            · rw [List.getElem?_append_right hge] at hy
              rw [List.getElem?_append_right (by rw [q3.1]; exact hge), q3.1] at hu
              obtain ⟨j0, hj0⟩ : ∃ j0, j - (X.take i).length = j0 := ⟨_, rfl⟩
              rw [hj0] at hy hu
              cases j0 with
              | succ j0 => simp at hy
              | zero =>
                simp at hy hu
                subst hy hu
                rw [hxs]
                exact t5
          · refine ⟨hA8.os.trans p5'.os, hA8.tape.trans p5'.tape, hA8.output.trans p5'.output, Nat.le_trans p5'.size hA8.size, fun q hq hg => (hA8.block q (Nat.lt_of_lt_of_le hq p5'.size) ⟨hg, fun e => by have := hua q e; omega⟩).trans (p5'.block q hq hg)⟩
          · intro q
            simp only [Value.ownBlock, List.mem_append, List.mem_singleton, Option.some.injEq]
            constructor
            · rintro (e | e | e | ⟨u, hu, e⟩)
              · exact .inl e
              · exact .inr (.inl e.symm)
              · exact .inr (.inr ⟨_, .inr rfl, e⟩)
              · exact .inr (.inr ⟨u, .inl hu, e⟩)
            · rintro (e | e | ⟨u, hu | rfl, e⟩)
              · exact .inl e
              · exact .inr (.inl e.symm)
              · exact .inr (.inr (.inr ⟨u, hu, e⟩))
              · exact .inr (.inr (.inl e))
          · rintro q (rfl | rfl | hq | ⟨u, hu, hq⟩)
            · exact .inl ((p6' _).2 (.inl rfl))
            · rcases hat' with hat' | hat'
              · exact .inl ((p6' _).2 (.inr (.inl hat')))
              · exact .inr (by omega)
            · exact .inr (by have := (q5.lt q hq).1; omega)
            · exact .inl ((p6' _).2 (.inr (.inr ⟨u, hu, hq⟩)))
          · exact hA8.mono (fun q _ hq => ⟨fun e => hq ((p6' q).2 (.inl e)), fun e => hq ((p6' q).2 (.inr (.inl e)))⟩)
        case hround2 =>
          intro j y cs2 B K2 hy hj hsz2 hncl2 hk2
          rw [List.getElem?_map] at hy
          obtain ⟨t, ht, rfl⟩ := Option.map_eq_some_iff.1 hy
          have htk : xs.take (j + 1) = xs.take j ++ [t] := by rw [List.take_add_one, ht]; rfl
          gi_wp2
          refine hk2 _ B (Agree.refl _ _) hj ?_
          intro B2 hs2 hag2 hj2 hrr2
          have hlo : h + 4 ≤ B2.heap.size := by omega
          clear hj hs2 hag2 hk2 hy hrr2
          obtain ⟨va, vc, k1, k2, k3, k4, k5⟩ := hj2
          have hjx : j < xs.length := (List.getElem?_eq_some_iff.1 ht).1
          have htT : t.length ≤ x.length := splitB_mem_len 58 x t (by rw [hxs]; exact List.mem_of_getElem? ht)
          have hsB := k4.size
          refine wpIn_block ?_
          refine wpIn_region_held (L := 5) (S := fun w => w.cell? ⟨h, 0, none⟩ = some (.slice va j vc)) rfl ?_
          refine wpAnyInH_take (i := 0) (v := .slice va j vc) (by kernel_rfl) (by kernel_rfl) rfl (by kernel_rfl) (by kernel_rfl) (by kernel_rfl) (fun _ _ _ h => h) ⟨Or.inl ⟨by rfl, ?_⟩, fun _ => rfl⟩ k1.cell ?_
          · intro w hSw; go_simp
          refine wpAnyInH_list (i := 1) (by kernel_rfl) rfl rfl ?_
          gi_wp2
          refine ⟨.inr k1.cell, ?_⟩
          refine wpAnyInH_list (i := 2) (by kernel_rfl) rfl rfl ?_
          have hnum := wire_number t B2.drew (by omega)
          gi_wp2_with (refine ⟨trivial, ?_⟩; gi_at_call 61; refine (CallsIn.inRound _ (callsIn_wide.2 hnum)).mono ?_; rintro e B3 ⟨rfl, hB3⟩)
          have hsB3 := hB3.size
          have hB3' : Agree (fun _ => True) B2 B3 := Agree.of_below (below_then (below_drew (Below.refl _ _)) hB3)
          have hsz3 : B2.heap.size ≤ B3.heap.size := hB3'.size
          have k1' : Boxed B3 h 65 (.slice va j vc) := boxed_agree k1 trivial hB3'
          have k2' := ownsRow_agree k2 (fun _ _ => trivial) hB3'
          refine ⟨.inr k1'.cell, ?_⟩
          refine wpAnyInH_list (i := 3) (by kernel_rfl) rfl rfl ?_
          gi_wp2
          refine ⟨.inr (k1'.alloc _).cell, ?_⟩
          refine wpAnyInH_list (i := 4) (by kernel_rfl) rfl rfl ?_
          obtain ⟨i0, hi0, hz0', hz1, hz2⟩ := info_parts infoInt
          refine wpListIn_append_lies _ rfl _ _ 65 rfl (h + 4) 3 i0 _ 1 8 Tryd.underlying65 hi0 hz0' hz1 hz2 rfl (by decide) _ j _ rfl (k2'.alloc _) ⟨B3.heap.size, 0, none⟩ 1 1 [.int .i64 (numberB t)] rfl rfl (World.news_of_block (heap_alloc_new B3 _)) (by simp [Value.oneCell']) (by omega) (by unfold maxLen; omega) (by omega) (by simp; omega) (B3.heap.size + 1) (by simp) ?_
          intro gg cap w6 hown' hgrow hat' hglt
          obtain ⟨hv1, hv2, hr2, hA6⟩ := box_appended k1' (by decide) k2' (by omega) hown' hgrow
          have c2 : w6.cell? ⟨h, 0, none⟩ = _ := hv1.cell
          have f2 : w6.frozen? ⟨h, 0, none⟩ = _ := hv1.frozen
          refine ⟨.inr hv1.cell, ?_⟩
          refine wpAnyInH_list (i := 5) (by kernel_rfl) rfl rfl ?_
          gi_wp2
          refine ⟨by kernel_rfl, ?_⟩
          have hSS := hA6 (fun q => ¬ cs2 q) (fun e => e ((k5 _).2 (.inl rfl))) (fun q hq e => e ((k5 q).2 (.inr hq)))
          refine ⟨fun q => q = h ∨ q = gg, ⟨_, _, hv2, ?_, hjx, ?_, fun q => by simp [Value.ownBlock, eq_comm]⟩, ?_, (hB3'.mono (fun _ _ _ => trivial)).trans hSS⟩
          · rw [htk, List.map_append, List.map_append]; exact hr2
          · exact Agree.below k4 (by omega) ((hB3'.mono (fun _ _ _ => trivial)).trans (hA6 (fun q => q < h) (fun e => by omega) (fun q hq e => by have := (k2'.lt q hq).1; omega))) (fun q hq => hq)
          · rintro q (rfl | rfl)
            · exact .inl ((k5 _).2 (.inl rfl))
            · rcases hat' with hat' | hat'
              · exact .inl ((k5 _).2 (.inr hat'))
              · exact .inr (by omega)
  clear a1
  have hxI : (0 : Int) ≤ (peekB b at_).toNat := by omega
  by_cases hp : 60 ≤ (peekB b at_).toNat ∧ (peekB b at_).toNat ≤ 63
  · obtain ⟨hpa, hpb⟩ := hp
    obtain ⟨e1, e2⟩ := HP1.out ⟨hpa, hpb⟩
    have HE1 := Lib.hid e1
    have HE2 := Lib.hid e2
    have HBX2 : ∀ W, Agree (fun q => q ≠ g) W0 W → W.cell? ⟨st, 0, none⟩ = some (.pointer (some ⟨g, 0, none⟩)) := fun W h => (boxed_agree HBX.out (by omega) h).cell
    generalize hxx : peekB b at_ = x at *
    have hpa' : (60 : Int) ≤ x.toNat := by omega
    have hpb' : (x.toNat : Int) ≤ 63 := by omega
    clear e1 e2 hpa hpb
    go_wp2_with (go_at_call 47; refine hPk.out.mono ?_; rintro e w1 ⟨rfl, q1, rfl⟩)
    have c3 : W0.cell? ⟨g, 3, none⟩ = some (.int .u8 p.toNat) := by rw [cell_of_row _ _ _ _ _ _ HS0.out]; rfl
    have f3 : W0.frozen? ⟨g, 3, none⟩ = false := HS0.out.fr 3
    have c1 := HS0.out.c1
    have f1 := HS0.out.fr 1
    have hgs : g ≠ st := by omega
    have b0 : W0.cell? ⟨st, 0, none⟩ = some (.pointer (some ⟨g, 0, none⟩)) := HBX.out.cell
    refine wp_region_noPanic ?_
    go_region_with (first
      | (go_at_call 46; refine (hNx.out _ ?_ ?_).mono ?_; (repeat (first | exact HS0.out | apply RdrAt.drewN | apply RdrAt.drew')); (repeat (first | exact HR0.out | apply Rd.drewN' | apply Rd.drew')); rintro e w2 ⟨rfl, q2, rfl⟩))
    all_goals refine NoPanic.normal ?_
    all_goals go_wp2
    all_goals
      apply tail
      · rw [HE1.out, HE2.out]
        have hq := ((HS0.out.drewN (q1 + 1 + q2)).set1 (at_ + 1)).set3 x
        rw [show (((at_ + 1 : Nat) : Int)) = (at_ : Int) + 1 from by omega] at hq
        exact hq
      · exact ((((Agree.refl _ _).drewN _).trans (agree_set 1 _)).trans (agree_set 3 _))
  · obtain ⟨e1, e2⟩ := HP2.out hp
    have HE1 := Lib.hid e1
    have HE2 := Lib.hid e2
    have hq : ((peekB b at_).toNat : Int) < 60 ∨ (63 : Int) < (peekB b at_).toNat := by omega
    clear e1 e2 hp
    generalize hxx : peekB b at_ = x at *
    clear hxx
    rcases hq with hq | hq
    all_goals
      go_wp2_with (go_at_call 47; refine hPk.out.mono ?_; rintro e w1 ⟨rfl, q1, rfl⟩)
      apply tail
      · rw [HE1.out, HE2.out]
        exact HS0.out.drewN q1
      · exact (Agree.refl _ _).drewN _
end Go.Proofs.YthllkfbegdmdkaaDoor
