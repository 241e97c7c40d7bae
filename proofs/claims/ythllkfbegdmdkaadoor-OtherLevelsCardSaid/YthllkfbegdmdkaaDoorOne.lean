/- wire.one. -/
import Derived.Test.YthllkfbegdmdkaaDoorNum
import Derived.Lib.ItoaLen
namespace Go.Proofs.YthllkfbegdmdkaaDoor
open Go.RowKit
set_option linter.unusedSimpArgs false
set_option linter.unusedVariables false
set_option maxRecDepth 100000
set_option maxHeartbeats 1000000

theorem infoStr : (Tryd.prog.info? 9).map (fun i => (i.zero, i.size, i.bytes)) = some (some (.string ⟨#[]⟩), 1, 16) := by kernel_rfl
def joinS (l : List ByteArray) (sep : List UInt8) : ByteArray := ⟨(Lib.join (l.map (·.data.toList)) sep).toArray⟩
theorem numS_size (n : Int) (h : in64 n) : (numS n).size ≤ 21 := by
  unfold numS
  split
  · show (0 : Nat) ≤ 21; omega
  · have := Lib.itoa_length_le n h.1 h.2
    simpa [ByteArray.size] using this
theorem lens_le (B : Nat) : ∀ L : List (List UInt8), (∀ x ∈ L, x.length ≤ B) → Lib.lens L ≤ B * L.length
  | [], _ => by simp [Lib.lens]
  | x :: L, h => by
    have h1 := lens_le B L (fun y hy => h y (List.mem_cons_of_mem _ hy))
    have h2 := h x (List.mem_cons_self ..)
    simp only [Lib.lens, List.map_cons, List.sum_cons, List.length_cons, Nat.mul_succ] at h1 ⊢
    omega
theorem join_le (B : Nat) (L : List (List UInt8)) (sep : List UInt8) (h : ∀ x ∈ L, x.length ≤ B) : (Lib.join L sep).length ≤ (sep.length + B) * L.length := by
  cases L with
  | nil => simp [Lib.join_nil]
  | cons x r =>
    rw [Lib.join_length]
    have h1 := lens_le B (x :: r) h
    have h2 : sep.length * r.length ≤ sep.length * (x :: r).length := Nat.mul_le_mul_left _ (by simp)
    rw [Nat.add_mul]
    omega
def oneS (ps : List Int) : ByteArray := joinS (ps.map numS) [58]
theorem wire_one (ps : List Int) (v : Value) (w : World) (hR : Rd .i64 w v ps) (hps : ∀ x ∈ ps, in64 x) (hl : ps.length ≤ 1000) (ht : Tab w) :
    Calls Tryd.prog 59 #[v] w fun e w' => e = .returned (.string (oneS ps)) ∧ Below w.heap.size w w' := by
  obtain ⟨a, c, rfl⟩ := hR.len
  obtain ⟨n, hn⟩ : ∃ n, ps.length = n := ⟨_, rfl⟩
  obtain ⟨s, hs⟩ : ∃ s, w.heap.size = s := ⟨_, rfl⟩
  obtain ⟨i0, hi0, hz0, hz1, hz2⟩ := info_parts infoStr
  have HR := Lib.hid hR
  have HN := Lib.hid hn
  have HT := Lib.hid ht
  have HP := Lib.hid hps
  clear hR hps ht
  rw [hn]
  go_enter Tryd.func59, Tryd.ntmps59
  go_wp2
  go_loopg [3, 8] (n + 1) (fun g s3 s8 wr => ∃ (i : Nat) (ua : Option Addr) (uc : Nat), s8 = .int .i64 i ∧ s3 = .slice ua i uc ∧ wr.ownsRow s 9 1 (.slice ua i uc) i ((ps.take i).map (fun x => Value.string (numS x))) ∧ i ≤ n ∧ n - i < g ∧ Below s w wr)
  case atStart => exact ⟨0, none, 0, rfl, rfl, World.ownsRow_nil _ _ _ _, by omega, by omega, Below.refl _ _⟩
  case round =>
    obtain ⟨i, ua, uc, rfl, rfl, hown, hi, hg, hb⟩ := hrel
    have hl' : n ≤ 1000 := by omega
    by_cases hin : i < n
    · have hinI : (i : Int) < n := by omega
      obtain ⟨x, hx⟩ : ∃ x, ps[i]? = some x := ⟨_, List.getElem?_eq_getElem (by rw [HN.out]; exact hin)⟩
      have hxi := HP.out x (List.mem_of_getElem? hx)
      obtain ⟨b, o, rfl, hcell⟩ : ∃ b o, a = some ⟨b, o, none⟩ ∧ wr.cell? ⟨b, o + i, none⟩ = some (.int .i64 x) := by
        obtain ⟨a', c', e, h1, h2, h3⟩ := HR.out
        injection e with e1 e2 e3
        rcases h3 with h3 | ⟨b, o, ha, hlt, hc⟩
        · have := HN.out; rw [h3] at this; simp at this; omega
        · refine ⟨b, o, by rw [e1, ha], (hb.cell (p := ⟨b, o + i, none⟩) (by show b < s; omega)).trans ?_⟩
          rw [hc i (by rw [HN.out]; exact hin), List.getD_eq_getElem?_getD, hx]; rfl
      have hT := Lib.hid (num_Text x hxi wr (HT.out.below (by rw [hs]; exact hb)))
      have htk : Hid ((ps.take (i + 1)).map (fun x => Value.string (numS x)) = (ps.take i).map (fun x => Value.string (numS x)) ++ [Value.string (numS x)]) := by
        show _ = _
        rw [List.take_add_one, hx, List.map_append]; rfl
      clear hx
      generalize numS x = S at hT htk
      go_wp2_with (first | (go_at_call 72; refine hT.out.mono ?_; rintro e w2 ⟨rfl, hb2⟩) | (at_builtin; refine wpList_append_lies _ rfl _ _ 100 rfl s 9 i0 _ 1 16 Tryd.underlying100 hi0 hz0 hz1 hz2 rfl (by decide) _ i _ rfl ((ownsRow_agree hown (S := fun _ => True) (fun _ _ => trivial) (Agree.of_below hb2)).alloc _) ⟨w2.heap.size, 0, none⟩ 1 1 [.string S] rfl rfl (World.news_of_block (heap_alloc_new w2 _)) (by simp [Value.oneCell']) (by omega) (by unfold maxLen; omega) (by omega) (by have := hb.size; have := hb2.size; simp; omega) (w2.heap.size + 1) (by simp) ?_; intro g cap w3 hown' hgrow hat hglt))
      go_roundg (n - i)
      case measure => omega
      case rel =>
        refine ⟨i + 1, _, cap, by simp, rfl, by rw [htk.out]; exact hown', by omega, by omega, ?_⟩
        have h1 : Below s w w2 := hb.trans (hb2.mono (by rw [← hs]; exact hb.size))
        exact (h1.alloc (by have := h1.size; omega) _).grown hgrow (by have := h1.size; simp; omega) (fun j hj => (hown.lt j hj).1)
    · have : i = n := by omega
      subst this
      have htl : ps.take i = ps := by rw [← HN.out, List.take_length]
      rw [htl] at hown
      have hJ : Hid (Calls Tryd.prog 58 #[.slice ua i uc, .string ⟨#[58]⟩] wr fun e w' => e = .returned (.string (oneS ps)) ∧ Below wr.heap.size wr w') := by
        rcases hown.2 with ⟨hv, h0⟩ | ⟨g, cap, cur, hv, hgb, hgh, hcap, hm, hsz, htake⟩
        · have hp : ps = [] := List.eq_nil_of_length_eq_zero (by rw [HN.out, h0])
          injection hv with e1 e2 e3
          subst e1 e3
          rw [hp, h0]
          refine (Tryd.strings_Join_none none 0 ⟨#[58]⟩ wr).mono ?_
          rintro e w' ⟨rfl, rfl⟩
          exact ⟨rfl, Below.refl _ _⟩
        · injection hv with e1 e2 e3
          subst e1 e3
          have hxs : (ps.map numS).length = i := by rw [List.length_map]; exact HN.out
          have hj := Tryd.strings_Join g 0 uc (ps.map numS) ⟨#[58]⟩ wr (fun j x hx => by
            have hjl := (List.getElem?_eq_some_iff.1 hx).1
            have h1 : (cur.toList.take (i * 1))[j]? = some (.string x) := by
              rw [htake]
              rw [List.getElem?_map] at hx ⊢
              cases hq : ps[j]? with
              | none => rw [hq] at hx; cases hx
              | some y => rw [hq] at hx; simp at hx; simp [hx]
            rw [List.getElem?_take_of_lt (by omega)] at h1
            rw [Nat.zero_add, cell_of_row _ _ _ _ _ _ hgh]
            simpa using h1) (Array.getElem?_eq_some_iff.1 hgh).1 (by omega) (by omega) (by
            have hb := join_le 21 ((ps.map numS).map (·.data.toList)) (⟨#[58]⟩ : ByteArray).data.toList (by
              intro y hy
              obtain ⟨z, hz, rfl⟩ := List.mem_map.1 hy
              obtain ⟨q, hq, rfl⟩ := List.mem_map.1 hz
              have h := numS_size q (HP.out q hq)
              rw [Array.length_toList]
              exact h)
            have e1 : ((ps.map numS).map (·.data.toList)).length = i := by rw [List.length_map]; exact hxs
            rw [e1] at hb
            have e2 : (⟨#[58]⟩ : ByteArray).data.toList.length = 1 := rfl
            rw [e2] at hb
            omega)
          rw [hxs] at hj
          exact hj
      go_wp2_with (first | (go_at_call 58; refine hJ.out.mono ?_; rintro e w2 ⟨rfl, hb2⟩))
      go_ret
      refine ⟨rfl, ?_⟩
      rw [hs]
      exact hb.trans (hb2.mono (by rw [← hs]; exact hb.size))
end Go.Proofs.YthllkfbegdmdkaaDoor
