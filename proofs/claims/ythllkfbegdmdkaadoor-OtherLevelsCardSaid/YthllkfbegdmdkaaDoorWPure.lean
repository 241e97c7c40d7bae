/- wire, as lists of bytes: what control sequences are (no program in sight). -/
import Derived.Lib.ItoaLen
import Derived.Lib.ItoaMem
import Derived.Lib.Join
namespace Go.Proofs.YthllkfbegdmdkaaDoor
set_option linter.unusedSimpArgs false
set_option linter.unusedVariables false

abbrev BL := List UInt8
structure SeqS where
  kind : Int
  priv : UInt8
  params : List (List Int)
  inter : BL
  final : UInt8
  data : BL
deriving DecidableEq
def seq0 : SeqS := ⟨0, 0, [], [], 0, []⟩
/-- A number in figures. -/
def digF : Nat → Nat → BL
  | 0, _ => []
  | f + 1, u => if u < 10 then [UInt8.ofNat (48 + u)] else digF f (u / 10) ++ [UInt8.ofNat (48 + u % 10)]
def numL (n : Int) : BL := if n < 0 then [] else digF 20 n.toNat
def joinL (L : List BL) (sep : UInt8) : BL := Lib.join L [sep]
def oneL (p : List Int) : BL := joinL (p.map numL) 58
def parL (L : List (List Int)) : BL := joinL (L.map oneL) 59
def bodyL (s : SeqS) : BL := (if s.priv = 0 then [] else [s.priv]) ++ (parL s.params ++ s.inter ++ [s.final])
def betB (lo hi : UInt8) (s : BL) : Bool := s.all fun c => lo ≤ c && c ≤ hi
def partB (p : List Int) : Bool := !(p.any fun n => decide (n < -1) || decide (1114111 < n)) && decide (1 ≤ p.length) && decide (p.length ≤ 8)
def listB (L : List (List Int)) : Bool := !(decide (16 < L.length) || decide (L = [[-1]])) && L.all partB
def plainB (s : SeqS) : Bool := s.priv == 0 && s.params.isEmpty
def firstsL : BL := [79, 80, 88, 91, 93, 92, 94, 95]
def shapeB (s : SeqS) : Bool :=
  if s.kind = 1 then s.data.isEmpty && 64 ≤ s.final && s.final ≤ 126
  else if s.kind = 3 then 64 ≤ s.final && s.final ≤ 126
  else if s.kind = 2 then plainB s && s.inter.isEmpty && s.data.isEmpty && 64 ≤ s.final && s.final ≤ 126
  else if s.kind = 4 then plainB s && s.inter.isEmpty && s.final == 0
  else if s.kind = 5 then plainB s && s.data.isEmpty && (!s.inter.isEmpty || !firstsL.contains s.final) && 48 ≤ s.final && s.final ≤ 126
  else false
def okB (s : SeqS) : Bool := (s.priv == 0 || (60 ≤ s.priv && s.priv ≤ 63)) && (decide (s.inter.length ≤ 2) && betB 32 47 s.inter) && listB s.params && betB 32 126 s.data && shapeB s
def mayE (s : SeqS) : Int := if 4096 < s.data.length then 4 else if okB s then 0 else 1
def putB (s : SeqS) : BL :=
  27 :: (if s.kind = 1 then 91 :: bodyL s else if s.kind = 2 then [79, s.final] else if s.kind = 3 then 80 :: (bodyL s ++ (s.data ++ [27, 92])) else if s.kind = 4 then 93 :: (s.data ++ [27, 92]) else bodyL s)

/-! ### Reading -/
def peekB (b : BL) (i : Nat) : UInt8 := b.getD i 0
def runB (b : BL) (i : Nat) (lo hi : UInt8) : BL := (b.drop i).takeWhile fun c => lo ≤ c && c ≤ hi
def splitB (c : UInt8) : BL → List BL
  | [] => [[]]
  | x :: r => if x = c then [] :: splitB c r else match splitB c r with | [] => [[x]] | y :: ys => (x :: y) :: ys
def digB (c : UInt8) : Bool := 48 ≤ c && c ≤ 57
def numStep (n : Int) (c : UInt8) : Int := min (10 * n + ((c.toNat : Int) - 48)) 1114111
def numV (b : BL) : Int := (b.takeWhile digB).foldl numStep 0
def numberB (t : BL) : Int := if t = [] then -1 else numV t
def paramsB (t : BL) : List (List Int) := if t = [] then [] else (splitB 59 t).map fun p => (splitB 58 p).map numberB
structure RdS where
  at_ : Nat
  s : SeqS
deriving DecidableEq
def rdPriv (b : BL) (r : RdS) : RdS := if 60 ≤ peekB b r.at_ && peekB b r.at_ ≤ 63 then ⟨r.at_ + 1, { r.s with priv := peekB b r.at_ }⟩ else r
def rdPar (b : BL) (r : RdS) : RdS := ⟨r.at_ + (runB b r.at_ 48 59).length, { r.s with params := r.s.params ++ paramsB (runB b r.at_ 48 59) }⟩
def rdParams (b : BL) (r : RdS) : RdS := rdPar b (rdPriv b r)
def rdRest (b : BL) (r : RdS) : RdS := ⟨r.at_ + (runB b r.at_ 32 47).length + 1, { r.s with inter := runB b r.at_ 32 47, final := peekB b (r.at_ + (runB b r.at_ 32 47).length) }⟩
def rdData (b : BL) (r : RdS) : RdS := ⟨r.at_ + (runB b r.at_ 32 126).length + 2, { r.s with data := runB b r.at_ 32 126 }⟩
def readB (b : BL) : RdS :=
  if peekB b 0 ≠ 27 then ⟨1, seq0⟩
  else if peekB b 1 = 91 then rdRest b (rdParams b ⟨2, { seq0 with kind := 1 }⟩)
  else if peekB b 1 = 79 then ⟨3, { seq0 with kind := 2, final := peekB b 2 }⟩
  else if peekB b 1 = 80 then rdData b (rdRest b (rdParams b ⟨2, { seq0 with kind := 3 }⟩))
  else if peekB b 1 = 93 then rdData b ⟨2, { seq0 with kind := 4 }⟩
  else rdRest b ⟨1, { seq0 with kind := 5 }⟩
def takeB (b : BL) : Option (SeqS × Nat) :=
  if mayE (readB b).s = 0 ∧ (putB (readB b).s).isPrefixOf b = true ∧ (putB (readB b).s).length = (readB b).at_ then some ((readB b).s, (readB b).at_) else none

/-! ### Figures -/
theorem digF_eq : ∀ (f u : Nat), u < 10 ^ f → 0 < f → digF f u = Lib.decDigits u
  | 0, _, _, h => by omega
  | f + 1, u, h, _ => by
    unfold digF
    rw [Lib.decDigits]
    by_cases hu : u < 10
    · rw [if_pos hu, dif_pos hu]
    · rw [if_neg hu, dif_neg hu]
      rw [Nat.pow_succ] at h
      have hf : 0 < f := by
        rcases Nat.eq_zero_or_pos f with rfl | h1
        · simp at h; omega
        · exact h1
      rw [digF_eq f (u / 10) (by omega) hf]
theorem numL_eq (n : Int) (h0 : 0 ≤ n) (h1 : n ≤ 9223372036854775807) : numL n = Lib.itoa n := by
  unfold numL Lib.itoa
  rw [if_neg (by omega), if_neg (by omega)]
  exact digF_eq 20 n.toNat (by omega) (by decide)
theorem dig_byte (d : Nat) (h : d < 10) : (UInt8.ofNat (48 + d)).toNat = 48 + d := by
  rw [UInt8.toNat_ofNat']; omega
theorem digF_digs : ∀ (f u : Nat), ∀ c ∈ digF f u, digB c = true
  | 0, _, c, h => by simp [digF] at h
  | f + 1, u, c, h => by
    unfold digF at h
    have hd : ∀ d, d < 10 → digB (UInt8.ofNat (48 + d)) = true := by
      intro d hd
      have e := dig_byte d hd
      simp [digB, UInt8.le_iff_toNat_le, e]; omega
    split at h
    · rw [List.mem_singleton] at h; subst h; exact hd u (by omega)
    · rw [List.mem_append] at h
      rcases h with h | h
      · exact digF_digs f _ c h
      · rw [List.mem_singleton] at h; subst h; exact hd _ (by omega)
theorem digF_ne (f u : Nat) (hf : 0 < f) : digF f u ≠ [] := by
  cases f with
  | zero => omega
  | succ f => unfold digF; split <;> simp
theorem digF_num : ∀ (f u : Nat), u < 10 ^ f → (digF f u).foldl numStep 0 = min (u : Int) 1114111
  | 0, u, h => by
    simp at h; subst h
    rfl
  | f + 1, u, h => by
    unfold digF
    split
    · rename_i hu
      simp only [List.foldl_cons, List.foldl_nil, numStep, dig_byte u hu]
      omega
    · rw [List.foldl_append, digF_num f (u / 10) (by rw [Nat.pow_succ] at h; omega)]
      simp only [List.foldl_cons, List.foldl_nil, numStep, dig_byte (u % 10) (by omega)]
      omega
theorem takeWhile_all {α : Type} (p : α → Bool) (l : List α) (h : ∀ x ∈ l, p x = true) : l.takeWhile p = l := by
  induction l with
  | nil => rfl
  | cons x r ih => rw [List.takeWhile_cons, h x (List.mem_cons_self ..)]; simp only [if_true]; rw [ih (fun y hy => h y (List.mem_cons_of_mem _ hy))]
theorem numberB_numL (n : Int) (h0 : -1 ≤ n) (h1 : n ≤ 1114111) : numberB (numL n) = n := by
  unfold numberB numL
  by_cases h : n < 0
  · rw [if_pos h, if_pos rfl]; omega
  · rw [if_neg h, if_neg (digF_ne _ _ (by decide)), numV, takeWhile_all _ _ (digF_digs _ _), digF_num _ _ (by omega)]
    omega
theorem numL_digs (n : Int) : ∀ c ∈ numL n, digB c = true := by
  unfold numL
  split
  · intro c h; cases h
  · exact digF_digs _ _

/-! ### Splits -/
theorem splitB_none (c : UInt8) : ∀ l : BL, c ∉ l → splitB c l = [l]
  | [], _ => rfl
  | x :: r, h => by
    unfold splitB
    rw [if_neg (by rintro rfl; exact h (List.mem_cons_self ..)), splitB_none c r (fun h' => h (List.mem_cons_of_mem _ h'))]
theorem splitB_app (c : UInt8) : ∀ (l r : BL), c ∉ l → splitB c (l ++ c :: r) = l :: splitB c r
  | [], r, _ => by simp [splitB]
  | x :: l, r, h => by
    rw [List.cons_append, splitB, if_neg (by rintro rfl; exact h (List.mem_cons_self ..)), splitB_app c l r (fun h' => h (List.mem_cons_of_mem _ h'))]
theorem joinL_nil (c : UInt8) : joinL [] c = [] := rfl
theorem joinL_one (x : BL) (c : UInt8) : joinL [x] c = x := Lib.join_one _ _
theorem joinL_cons (x y : BL) (L : List BL) (c : UInt8) : joinL (x :: y :: L) c = x ++ c :: joinL (y :: L) c := by
  unfold joinL
  rw [Lib.join_cons, Lib.join_cons]
  simp [Lib.joinTail]
theorem splitB_join (c : UInt8) : ∀ (L : List BL), L ≠ [] → (∀ x ∈ L, c ∉ x) → splitB c (joinL L c) = L
  | [], h, _ => absurd rfl h
  | [x], _, h => by rw [joinL_one]; exact splitB_none c x (h x (List.mem_cons_self ..))
  | x :: y :: L, _, h => by
    rw [joinL_cons, splitB_app c x _ (h x (List.mem_cons_self ..)), splitB_join c (y :: L) (by simp) (fun z hz => h z (List.mem_cons_of_mem _ hz))]
theorem mem_joinL (c : UInt8) : ∀ (L : List BL) (d : UInt8), d ∈ joinL L c → d = c ∨ ∃ x ∈ L, d ∈ x
  | [], d, h => by cases h
  | [x], d, h => by rw [joinL_one] at h; exact .inr ⟨x, List.mem_cons_self .., h⟩
  | x :: y :: L, d, h => by
    rw [joinL_cons, List.mem_append, List.mem_cons] at h
    rcases h with h | rfl | h
    · exact .inr ⟨x, List.mem_cons_self .., h⟩
    · exact .inl rfl
    · rcases mem_joinL c (y :: L) d h with h | ⟨z, hz, h⟩
      · exact .inl h
      · exact .inr ⟨z, List.mem_cons_of_mem _ hz, h⟩
theorem dig_not {c : UInt8} (h : digB c = true) : c ≠ 58 ∧ c ≠ 59 ∧ 48 ≤ c ∧ c ≤ 59 := by
  simp only [digB, Bool.and_eq_true, decide_eq_true_eq, UInt8.le_iff_toNat_le] at h
  refine ⟨?_, ?_, ?_, ?_⟩
  · rintro rfl; revert h; decide
  · rintro rfl; revert h; decide
  · simp only [UInt8.le_iff_toNat_le]; exact h.1
  · simp only [UInt8.le_iff_toNat_le]; have := h.2; simp at this ⊢; omega
theorem oneL_mem {p : List Int} {d : UInt8} (h : d ∈ oneL p) : d = 58 ∨ digB d = true := by
  rcases mem_joinL 58 _ d h with h | ⟨x, hx, h⟩
  · exact .inl h
  · obtain ⟨n, _, rfl⟩ := List.mem_map.1 hx
    exact .inr (numL_digs n d h)
theorem split_oneL {p : List Int} (hp : p ≠ []) : splitB 58 (oneL p) = p.map numL := by
  refine splitB_join 58 _ (by simpa using hp) ?_
  intro x hx h
  obtain ⟨n, _, rfl⟩ := List.mem_map.1 hx
  exact (dig_not (numL_digs n _ h)).1 rfl
theorem split_parL {L : List (List Int)} (hL : L ≠ []) : splitB 59 (parL L) = L.map oneL := by
  refine splitB_join 59 _ (by simpa using hL) ?_
  intro x hx h
  obtain ⟨p, _, rfl⟩ := List.mem_map.1 hx
  rcases oneL_mem h with h | h
  · exact absurd h (by decide)
  · exact (dig_not h).2.1 rfl
theorem parL_mem {L : List (List Int)} {d : UInt8} (h : d ∈ parL L) : 48 ≤ d ∧ d ≤ 59 := by
  rcases mem_joinL 59 _ d h with rfl | ⟨x, hx, h⟩
  · decide
  · obtain ⟨p, _, rfl⟩ := List.mem_map.1 hx
    rcases oneL_mem h with rfl | h
    · decide
    · exact (dig_not h).2.2
theorem partB_parts {p : List Int} (h : partB p = true) : p ≠ [] ∧ p.length ≤ 8 ∧ ∀ n ∈ p, -1 ≤ n ∧ n ≤ 1114111 := by
  simp only [partB, Bool.and_eq_true, Bool.not_eq_true', decide_eq_true_eq, List.any_eq_false, Bool.or_eq_true, not_or, Int.not_lt] at h
  refine ⟨by rintro rfl; simp at h, h.2, fun n hn => ?_⟩
  have := h.1.1 n hn
  omega
theorem numbers_numL {p : List Int} (h : ∀ n ∈ p, -1 ≤ n ∧ n ≤ 1114111) : (p.map numL).map numberB = p := by
  rw [List.map_map]
  conv => rhs; rw [← List.map_id p]
  refine List.map_congr_left fun n hn => ?_
  exact numberB_numL n (h n hn).1 (h n hn).2
theorem listB_parts {L : List (List Int)} (h : listB L = true) : L.length ≤ 16 ∧ L ≠ [[-1]] ∧ ∀ p ∈ L, partB p = true := by
  simp only [listB, Bool.and_eq_true, Bool.not_eq_true', Bool.or_eq_false_iff, decide_eq_false_iff_not, List.all_eq_true] at h
  exact ⟨by omega, h.1.2, h.2⟩
theorem parL_ne {L : List (List Int)} (h : listB L = true) (hL : L ≠ []) : parL L ≠ [] := by
  obtain ⟨_, h1, h2⟩ := listB_parts h
  cases L with
  | nil => exact absurd rfl hL
  | cons p r =>
    cases r with
    | cons q r => rw [parL, List.map_cons, List.map_cons, joinL_cons]; simp
    | nil =>
      rw [parL, List.map_cons, List.map_nil, joinL_one]
      obtain ⟨g1, g2, g3⟩ := partB_parts (h2 p (List.mem_cons_self ..))
      cases p with
      | nil => exact absurd rfl g1
      | cons n t =>
        cases t with
        | cons m t => rw [oneL, List.map_cons, List.map_cons, joinL_cons]; simp
        | nil =>
          rw [oneL, List.map_cons, List.map_nil, joinL_one, numL]
          have := g3 n (List.mem_cons_self ..)
          have hn : n ≠ -1 := by rintro rfl; exact h1 rfl
          rw [if_neg (by omega)]
          exact digF_ne _ _ (by decide)
theorem paramsB_parL {L : List (List Int)} (h : listB L = true) : paramsB (parL L) = L := by
  by_cases hL : L = []
  · subst hL; rfl
  · unfold paramsB
    rw [if_neg (parL_ne h hL), split_parL hL, List.map_map]
    conv => rhs; rw [← List.map_id L]
    refine List.map_congr_left fun p hp => ?_
    obtain ⟨g1, _, g3⟩ := partB_parts ((listB_parts h).2.2 p hp)
    simp only [Function.comp, split_oneL g1, id]
    exact numbers_numL g3

/-! ### What is put is read -/
theorem runB_at (pre t : BL) (r : BL) (lo hi : UInt8) (ht : ∀ c ∈ t, lo ≤ c ∧ c ≤ hi) (hr : ∀ c, r.head? = some c → ¬ (lo ≤ c ∧ c ≤ hi)) : runB (pre ++ (t ++ r)) pre.length lo hi = t := by
  unfold runB
  rw [List.drop_left]
  induction t with
  | nil =>
    rw [List.nil_append]
    cases r with
    | nil => rfl
    | cons c r =>
      have := hr c rfl
      rw [List.takeWhile_cons, if_neg (by simpa using this)]
  | cons c t ih =>
    have h := ht c (List.mem_cons_self ..)
    rw [List.cons_append, List.takeWhile_cons, if_pos (by simpa using h), ih (fun x hx => ht x (List.mem_cons_of_mem _ hx))]
theorem peekB_at (pre : BL) (c : UInt8) (r : BL) : peekB (pre ++ c :: r) pre.length = c := by simp [peekB]
theorem betB_parts {lo hi : UInt8} {l : BL} (h : betB lo hi l = true) : ∀ c ∈ l, lo ≤ c ∧ c ≤ hi := by
  intro c hc
  have := List.all_eq_true.1 h c hc
  simpa using this
theorem le_u8 (a b : UInt8) : a ≤ b ↔ a.toNat ≤ b.toNat := UInt8.le_iff_toNat_le
theorem rdRest_put (pre inter : BL) (f : UInt8) (r : BL) (s : SeqS) (hi : betB 32 47 inter = true) (hf : 48 ≤ f) :
    rdRest (pre ++ (inter ++ f :: r)) ⟨pre.length, s⟩ = ⟨pre.length + inter.length + 1, { s with inter := inter, final := f }⟩ := by
  have h1 := runB_at pre inter (f :: r) 32 47 (betB_parts hi) (fun c hc => by
    injection hc with hc; subst hc
    rintro ⟨_, h⟩
    rw [le_u8] at h hf
    have e1 : (48 : UInt8).toNat = 48 := rfl
    have e2 : (47 : UInt8).toNat = 47 := rfl
    omega)
  unfold rdRest
  simp only [h1]
  have h2 := peekB_at (pre ++ inter) f r
  rw [List.append_assoc, List.length_append] at h2
  rw [h2]
theorem rdData_put (pre data : BL) (r : BL) (s : SeqS) (hd : betB 32 126 data = true) :
    rdData (pre ++ (data ++ 27 :: r)) ⟨pre.length, s⟩ = ⟨pre.length + data.length + 2, { s with data := data }⟩ := by
  have h1 := runB_at pre data (27 :: r) 32 126 (betB_parts hd) (fun c hc => by
    injection hc with hc; subst hc; decide)
  unfold rdData
  simp only [h1]
theorem rdParams_put (pre : BL) (priv : UInt8) (L : List (List Int)) (x : UInt8) (r : BL) (s : SeqS) (hs : s.priv = 0 ∧ s.params = []) (hp : priv = 0 ∨ (60 ≤ priv ∧ priv ≤ 63)) (hL : listB L = true) (hx : ¬ (48 ≤ x ∧ x ≤ 63)) :
    rdParams (pre ++ ((if priv = 0 then [] else [priv]) ++ (parL L ++ x :: r))) ⟨pre.length, s⟩ = ⟨pre.length + (if priv = 0 then [] else [priv] : BL).length + (parL L).length, { s with priv := priv, params := L }⟩ := by
  have hx1 : ∀ c, (x :: r).head? = some c → ¬ (48 ≤ c ∧ c ≤ 59) := by
    intro c hc
    injection hc with hc; subst hc
    rintro ⟨h1, h2⟩
    refine hx ⟨h1, ?_⟩
    rw [le_u8] at h2 ⊢
    have e1 : (59 : UInt8).toNat = 59 := rfl
    have e2 : (63 : UInt8).toNat = 63 := rfl
    omega
  have hpk : ∀ (q : BL), ¬ (60 ≤ peekB (q ++ (parL L ++ x :: r)) q.length ∧ peekB (q ++ (parL L ++ x :: r)) q.length ≤ 63) := by
    intro q
    cases hP : parL L with
    | nil =>
      rw [List.nil_append, peekB_at]
      rintro ⟨h1, h2⟩
      refine hx ⟨?_, h2⟩
      rw [le_u8] at h1 ⊢
      have e1 : (48 : UInt8).toNat = 48 := rfl
      have e2 : (60 : UInt8).toNat = 60 := rfl
      omega
    | cons c t =>
      rw [List.cons_append, peekB_at]
      have := parL_mem (L := L) (d := c) (by rw [hP]; exact List.mem_cons_self ..)
      rintro ⟨h1, _⟩
      have h2 := this.2
      rw [le_u8] at h1 h2
      have e1 : (59 : UInt8).toNat = 59 := rfl
      have e2 : (60 : UInt8).toNat = 60 := rfl
      omega
  have hrun : ∀ (q : BL) (s' : SeqS), s'.params = [] → rdPar (q ++ (parL L ++ x :: r)) ⟨q.length, s'⟩ = ⟨q.length + (parL L).length, { s' with params := L }⟩ := by
    intro q s' hs'
    have h1 := runB_at q (parL L) (x :: r) 48 59 (fun c hc => parL_mem hc) hx1
    unfold rdPar
    simp only [h1, paramsB_parL hL, hs', List.nil_append]
  by_cases h0 : priv = 0
  · subst h0
    simp only [if_pos, List.nil_append]
    have hnp := hpk pre
    unfold rdParams rdPriv
    rw [if_neg (by simpa using hnp), hrun pre s hs.2]
    obtain ⟨k, p, q, i, f, d⟩ := s
    obtain ⟨rfl, rfl⟩ := hs
    rfl
  · rw [if_neg h0]
    have hp' : 60 ≤ priv ∧ priv ≤ 63 := hp.resolve_left h0
    unfold rdParams rdPriv
    have hk : peekB (pre ++ ([priv] ++ (parL L ++ x :: r))) pre.length = priv := by rw [List.singleton_append, peekB_at]
    simp only [hk]
    rw [if_pos (by simpa using hp')]
    have h2 := hrun (pre ++ [priv]) { s with priv := priv } hs.2
    rw [List.append_assoc, List.length_append] at h2
    exact h2
theorem putB_len (s : SeqS) : 2 ≤ (putB s).length := by
  unfold putB bodyL
  repeat' split
  all_goals (simp; try omega)
theorem read_put (s : SeqS) (h : mayE s = 0) (r : BL) : readB (putB s ++ r) = ⟨(putB s).length, s⟩ := by
  obtain ⟨kind, priv, L, inter, f, data⟩ := s
  have hok : okB ⟨kind, priv, L, inter, f, data⟩ = true := by
    unfold mayE at h
    split at h
    · cases h
    · split at h
      · assumption
      · cases h
  clear h
  simp only [okB, Bool.and_eq_true, Bool.or_eq_true, beq_iff_eq, decide_eq_true_eq] at hok
  obtain ⟨⟨⟨⟨hp, hil, hi⟩, hL⟩, hd⟩, hsh⟩ := hok
  have h64 : (64 : UInt8).toNat = 64 := rfl
  have h48 : (48 : UInt8).toNat = 48 := rfl
  have h63 : (63 : UInt8).toNat = 63 := rfl
  have h47 : (47 : UInt8).toNat = 47 := rfl
  have h126 : (126 : UInt8).toNat = 126 := rfl
  unfold shapeB plainB at hsh
  simp only [] at hsh
  -- the byte behind the parameters
  have hhead : ∀ (x : UInt8), 64 ≤ f → (inter ++ f :: r).head? = some x → ¬ (48 ≤ x ∧ x ≤ 63) := by
    intro x hf hx
    cases inter with
    | nil =>
      injection hx with hx; subst hx
      rintro ⟨_, h⟩
      rw [le_u8] at h hf; omega
    | cons c t =>
      injection hx with hx; subst hx
      have := (betB_parts hi c (List.mem_cons_self ..)).2
      rintro ⟨h, _⟩
      rw [le_u8] at h this; omega
  have hbody : ∀ (pre : BL) (s0 : SeqS) (t : BL), 64 ≤ f → s0.priv = 0 ∧ s0.params = [] →
      rdRest (pre ++ ((if priv = 0 then [] else [priv]) ++ (parL L ++ inter ++ [f]) ++ t)) (rdParams (pre ++ ((if priv = 0 then [] else [priv]) ++ (parL L ++ inter ++ [f]) ++ t)) ⟨pre.length, s0⟩) =
        ⟨pre.length + ((if priv = 0 then [] else [priv]) ++ (parL L ++ inter ++ [f]) : BL).length, { s0 with priv := priv, params := L, inter := inter, final := f }⟩ := by
    intro pre s0 t hf hs0
    obtain ⟨x, y, hxy⟩ : ∃ x y, inter ++ f :: t = x :: y := by
      cases inter with
      | nil => exact ⟨_, _, rfl⟩
      | cons c u => exact ⟨_, _, rfl⟩
    have hx : ¬ (48 ≤ x ∧ x ≤ 63) := by
      cases inter with
      | nil =>
        injection hxy with hx _; subst hx
        rintro ⟨_, h⟩
        rw [le_u8] at h hf; omega
      | cons c u =>
        injection hxy with hx _; subst hx
        have := (betB_parts hi c (List.mem_cons_self ..)).2
        rintro ⟨h, _⟩
        rw [le_u8] at h this; omega
    have e1 : (if priv = 0 then [] else [priv]) ++ (parL L ++ inter ++ [f]) ++ t = (if priv = 0 then [] else [priv]) ++ (parL L ++ x :: y) := by
      rw [← hxy]; simp
    rw [e1, rdParams_put pre priv L x y s0 hs0 hp hL hx]
    have e2 : pre ++ ((if priv = 0 then [] else [priv]) ++ (parL L ++ x :: y)) = (pre ++ (if priv = 0 then [] else [priv]) ++ parL L) ++ (inter ++ f :: t) := by
      rw [hxy]; simp
    have h3 := rdRest_put (pre ++ (if priv = 0 then [] else [priv]) ++ parL L) inter f t { s0 with priv := priv, params := L } hi (by rw [le_u8] at hf ⊢; omega)
    rw [e2]
    rw [show (pre ++ (if priv = 0 then [] else [priv]) ++ parL L).length = pre.length + (if priv = 0 then [] else [priv] : BL).length + (parL L).length from by rw [List.length_append, List.length_append]] at h3
    rw [h3]
    simp only [List.length_append, List.length_cons, List.length_nil]
    congr 1
    omega
  by_cases k1 : kind = 1
  · subst k1
    rw [if_pos rfl] at hsh
    simp only [Bool.and_eq_true, List.isEmpty_iff, decide_eq_true_eq] at hsh
    obtain ⟨⟨rfl, hf⟩, _⟩ := hsh
    have e : putB ⟨1, priv, L, inter, f, []⟩ ++ r = [27, 91] ++ ((if priv = 0 then [] else [priv]) ++ (parL L ++ inter ++ [f]) ++ r) := by simp [putB, bodyL]
    have h3 := hbody [27, 91] { seq0 with kind := 1 } r hf ⟨rfl, rfl⟩
    rw [e]
    unfold readB
    rw [if_neg (by simp [peekB]), if_pos (by simp [peekB])]
    rw [show (⟨2, { seq0 with kind := 1 }⟩ : RdS) = ⟨([27, 91] : BL).length, { seq0 with kind := 1 }⟩ from rfl, h3]
    simp [putB, bodyL, seq0]
    omega
  · rw [if_neg k1] at hsh
    by_cases k3 : kind = 3
    · subst k3
      rw [if_pos rfl] at hsh
      simp only [Bool.and_eq_true, decide_eq_true_eq] at hsh
      have e : putB ⟨3, priv, L, inter, f, data⟩ ++ r = [27, 80] ++ ((if priv = 0 then [] else [priv]) ++ (parL L ++ inter ++ [f]) ++ (data ++ 27 :: 92 :: r)) := by simp [putB, bodyL]
      have h3 := hbody [27, 80] { seq0 with kind := 3 } (data ++ 27 :: 92 :: r) hsh.1 ⟨rfl, rfl⟩
      rw [e]
      unfold readB
      rw [if_neg (by simp [peekB]), if_neg (by simp [peekB]), if_neg (by simp [peekB]), if_pos (by simp [peekB])]
      rw [show (⟨2, { seq0 with kind := 3 }⟩ : RdS) = ⟨([27, 80] : BL).length, { seq0 with kind := 3 }⟩ from rfl, h3]
      have h4 := rdData_put ([27, 80] ++ ((if priv = 0 then [] else [priv]) ++ (parL L ++ inter ++ [f]))) data (92 :: r) { seq0 with kind := 3, priv := priv, params := L, inter := inter, final := f } hd
      rw [List.append_assoc, List.length_append] at h4
      rw [h4]
      simp [putB, bodyL, seq0]
      omega
    · rw [if_neg k3] at hsh
      by_cases k2 : kind = 2
      · subst k2
        rw [if_pos rfl] at hsh
        simp only [Bool.and_eq_true, List.isEmpty_iff, beq_iff_eq, decide_eq_true_eq] at hsh
        obtain ⟨⟨⟨⟨⟨rfl, rfl⟩, rfl⟩, rfl⟩, _⟩, _⟩ := hsh
        simp [putB, readB, peekB, seq0]
      · rw [if_neg k2] at hsh
        by_cases k4 : kind = 4
        · subst k4
          rw [if_pos rfl] at hsh
          simp only [Bool.and_eq_true, List.isEmpty_iff, beq_iff_eq] at hsh
          obtain ⟨⟨⟨rfl, rfl⟩, rfl⟩, rfl⟩ := hsh
          have e : putB ⟨4, 0, [], [], 0, data⟩ ++ r = [27, 93] ++ (data ++ 27 :: 92 :: r) := by simp [putB]
          have h4 := rdData_put [27, 93] data (92 :: r) { seq0 with kind := 4 } hd
          rw [e]
          unfold readB
          rw [if_neg (by simp [peekB]), if_neg (by simp [peekB]), if_neg (by simp [peekB]), if_neg (by simp [peekB]), if_pos (by simp [peekB])]
          rw [show (⟨2, { seq0 with kind := 4 }⟩ : RdS) = ⟨([27, 93] : BL).length, { seq0 with kind := 4 }⟩ from rfl, h4]
          simp [putB, seq0]
          omega
        · rw [if_neg k4] at hsh
          by_cases k5 : kind = 5
          · subst k5
            rw [if_pos rfl] at hsh
            simp only [Bool.and_eq_true, List.isEmpty_iff, beq_iff_eq, decide_eq_true_eq, Bool.or_eq_true, Bool.not_eq_true'] at hsh
            obtain ⟨⟨⟨⟨⟨rfl, rfl⟩, rfl⟩, hfi⟩, hf⟩, hf2⟩ := hsh
            have e : putB ⟨5, 0, [], inter, f, []⟩ ++ r = [27] ++ (inter ++ f :: r) := by simp [putB, bodyL, parL, joinL_nil]
            have h4 := rdRest_put [27] inter f r { seq0 with kind := 5 } hi hf
            have hpk : peekB ([27] ++ (inter ++ f :: r)) 1 ≠ 91 ∧ peekB ([27] ++ (inter ++ f :: r)) 1 ≠ 79 ∧ peekB ([27] ++ (inter ++ f :: r)) 1 ≠ 80 ∧ peekB ([27] ++ (inter ++ f :: r)) 1 ≠ 93 := by
              cases inter with
              | nil =>
                have e2 : peekB ([27] ++ ([] ++ f :: r)) 1 = f := by simp [peekB]
                rw [e2]
                rcases hfi with h | h
                · cases h
                · refine ⟨?_, ?_, ?_, ?_⟩ <;> (rintro rfl; revert h; decide)
              | cons c t =>
                have e2 : peekB ([27] ++ (c :: t ++ f :: r)) 1 = c := by simp [peekB]
                rw [e2]
                have := (betB_parts hi c (List.mem_cons_self ..)).2
                refine ⟨?_, ?_, ?_, ?_⟩ <;> (rintro rfl; revert this; decide)
            rw [e]
            unfold readB
            rw [if_neg (by simp [peekB]), if_neg hpk.1, if_neg hpk.2.1, if_neg hpk.2.2.1, if_neg hpk.2.2.2]
            rw [show (⟨1, { seq0 with kind := 5 }⟩ : RdS) = ⟨([27] : BL).length, { seq0 with kind := 5 }⟩ from rfl, h4]
            simp [putB, bodyL, parL, joinL_nil, seq0]
            omega
          · rw [if_neg k5] at hsh; cases hsh
theorem take_put (s : SeqS) (h : mayE s = 0) (r : BL) : takeB (putB s ++ r) = some (s, (putB s).length) := by
  unfold takeB
  rw [read_put s h r]
  have hp : (putB s).isPrefixOf (putB s ++ r) = true := by
    rw [List.isPrefixOf_iff_prefix]
    exact List.prefix_append _ _
  exact if_pos ⟨h, hp, rfl⟩
end Go.Proofs.YthllkfbegdmdkaaDoor
