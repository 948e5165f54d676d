/- The pure part: what the functions compute, in plain Lean, with no program in sight; no condition. -/
import Derived.Test.YtcginliajfemcaaA3Pure4
import Derived.Test.YtcginliajfemcaaA3Lib
namespace Go.FX
open Go Go.GL Go.RowKit
section
variable {c : Nat} {L : List (Nat × Nat)} (hc : c ≤ 10) (hL : ∀ e ∈ L, e.1 < c ∧ e.2 < c) (hl : L.length ≤ maxLen)
include hl in
theorem imAttacks {a b : Nat} : F_impl_Frame_attacks (frm c L) (a : Int) (b : Int) = some (att L a b) := by
  unfold F_impl_Frame_attacks F_slices_ContainsFunc_int64_int64__impl_Frame_attacks_1
  have h : F_slices_IndexFunc_int64_int64__impl_Frame_attacks_1 (frm c L).fAttacks (a : Int) (b : Int) = some (fidx (fun e : List Int => match e with | [x, y] => x == (a : Int) && y == (b : Int) | _ => false) (frm c L).fAttacks) := by
    refine idxf_loop (F := F_slices_IndexFunc_int64_int64__impl_Frame_attacks_1_l1 (frm c L).fAttacks (a : Int) (b : Int)) (P := fun x => F_impl_Frame_attacks_1 x a b) _ (fun _ _ => rfl) (by rw [frm_len]; exact hl) (fun e he => ?_)
    obtain ⟨q, -, rfl⟩ := List.mem_map.1 he
    unfold F_impl_Frame_attacks_1
    simp only [pair0, pair1]
    cases ((q.1 : Int) == (a : Int)) <;> rfl
  rw [h, Option.bind_some, Option.bind_some, fidx_ge]
  congr 1
  unfold frm att
  rw [List.any_map]
  congr 1
  funext e
  rw [Bool.eq_iff_iff]
  simp only [Function.comp, Bool.and_eq_true, beq_iff_eq]
  omega
end
/-! strategies -/
def stC (c : Nat) (R Q : List Int) (i : Nat) : Bool := match R[i]?, Q[i]? with
  | some r, some q => within r 0 c && within q (-1) (c - 1)
  | _, _ => false
theorem stC_at {c : Nat} {R Q : List Int} {i : Nat} (h1 : i < R.length) (h2 : i < Q.length) : stC c R Q i = (within R[i] 0 c && within Q[i] (-1) (c - 1)) := by
  unfold stC
  rw [List.getElem?_eq_getElem h1, List.getElem?_eq_getElem h2]
/-- the answer to an attacker y of x holds -/
def ansB (L : List (Nat × Nat)) (R Q : List Int) (x y : Nat) : Bool := match Q[y]? with
  | some z => !decide (z < 0) && att L z.toNat y && (match R[z.toNat]?, R[x]? with | some r, some s => !(r == 0) && decide (r < s) | _, _ => false)
  | none => false
def rowB (L : List (Nat × Nat)) (R Q : List Int) (x : Nat) : Bool := match R[x]? with
  | some s => (s == 0) || (List.range 10).all fun y => !att L y x || ansB L R Q x y
  | none => false
section
variable {c : Nat} {L : List (Nat × Nat)} (hc : c ≤ 10) (hL : ∀ e ∈ L, e.1 < c ∧ e.2 < c) (hl : L.length ≤ maxLen) {R Q : List Int} (hR : R.length = c) (hQ : Q.length = c)
include hc hR hQ in
theorem sp_st1 : F_spec_l08Strategy_l1 (frm c L) ⟨R, Q⟩ (Int.toNat ((c : Int) - 0) + 2) 0 = bif (List.range c).all (stC c R Q) then some (Sum.inr ()) else some (Sum.inl false) := by
  refine all_loopG (n := c) (F := F_spec_l08Strategy_l1 (frm c L) ⟨R, Q⟩) (stC c R Q) (fun f => ?_) (fun i f hi => ?_) (by omega)
  · rw [F_spec_l08Strategy_l1.eq_2, show (frm c L).fCount = (c : Int) from rfl, dlt_f (by omega), cond_false]
  · rw [F_spec_l08Strategy_l1.eq_2, show (frm c L).fCount = (c : Int) from rfl, dlt_t hi, cond_true]
    dsimp only
    rw [idx_nat (by omega : i < R.length), idx_nat (by omega : i < Q.length), spIn, spIn, stC_at (by omega) (by omega), W_succ10 hi (by omega), W_id (n := (c : Int) - 1) (by omega) (by omega)]
    cases within R[i] 0 c <;> cases within Q[i] (-1) (c - 1) <;> rfl
include hc hR hQ in
theorem im_st1 : F_impl_IsStrategy_l1 ⟨R, Q⟩ (frm c L) (R.length + 1) 0 = bif (List.range c).all (stC c R Q) then some (Sum.inr ()) else some (Sum.inl false) := by
  refine all_loopG (n := c) (F := F_impl_IsStrategy_l1 ⟨R, Q⟩ (frm c L)) (stC c R Q) (fun f => ?_) (fun i f hi => ?_) (by omega)
  · rw [F_impl_IsStrategy_l1.eq_2]; dsimp only; rw [hR, dlt_f (by omega), cond_false]
  · rw [F_impl_IsStrategy_l1.eq_2, show (frm c L).fCount = (c : Int) from rfl]
    dsimp only
    rw [hR, dlt_t hi, cond_true, idx_nat (by omega : i < R.length), idx_nat (by omega : i < Q.length), imIn, imIn, stC_at (by omega) (by omega), W_succ10 hi (by omega), W_id (n := (c : Int) - 1) (by omega) (by omega)]
    cases within R[i] 0 c <;> cases within Q[i] (-1) (c - 1) <;> rfl
variable (hst : (List.range c).all (stC c R Q) = true)
include hst in
theorem st_rng {i : Nat} (hi : i < c) (h1 : i < R.length) (h2 : i < Q.length) : (0 ≤ R[i] ∧ R[i] ≤ c) ∧ -1 ≤ Q[i] ∧ Q[i] ≤ c - 1 := by
  have := List.all_eq_true.1 hst i (List.mem_range.2 hi)
  rw [stC_at h1 h2, Bool.and_eq_true, within_iff, within_iff] at this
  exact this
theorem att_out {y x : Nat} (hL : ∀ e ∈ L, e.1 < c ∧ e.2 < c) (h : c ≤ y) : att L y x = false := by
  unfold att
  rw [Bool.eq_false_iff]
  intro h2
  obtain ⟨e, he, hp⟩ := List.any_eq_true.1 h2
  simp only [Bool.and_eq_true, beq_iff_eq] at hp
  have := (hL e he).1
  omega
theorem row_cut {x : Nat} (hL : ∀ e ∈ L, e.1 < c ∧ e.2 < c) (hc : c ≤ 10) {p : Nat → Bool} : ((List.range 10).all fun y => !att L y x || p y) = (List.range c).all fun y => !att L y x || p y := by
  rw [Bool.eq_iff_iff, List.all_eq_true, List.all_eq_true]
  constructor
  · intro h y hy; exact h y (List.mem_range.2 (by have := List.mem_range.1 hy; omega))
  · intro h y hy
    by_cases hyc : y < c
    · exact h y (List.mem_range.2 hyc)
    · rw [att_out hL (by omega)]; rfl
theorem ans_at {x y : Nat} (hx : x < R.length) (hy : y < Q.length) : ansB L R Q x y = (!decide (Q[y] < 0) && att L Q[y].toNat y && (match R[Q[y].toNat]? with | some r => !(r == 0) && decide (r < R[x]) | none => false)) := by
  unfold ansB
  rw [List.getElem?_eq_getElem hy, List.getElem?_eq_getElem hx]
  dsimp only
  cases R[Q[y].toNat]? <;> rfl
include hc hR hQ hst in
theorem sp_st3 {x : Nat} (hx : x < c) (hxR : x < R.length) (hx0 : R[x] ≠ 0) : F_spec_l08Strategy_l3 (frm c L) ⟨R, Q⟩ (x : Int) (gr c L) (Int.toNat ((c : Int) - 0) + 2) 0 = bif (List.range c).all (fun y => !att L y x || ansB L R Q x y) then some (Sum.inr ()) else some (Sum.inl false) := by
  refine all_loopG (n := c) (F := F_spec_l08Strategy_l3 (frm c L) ⟨R, Q⟩ (x : Int) (gr c L)) (fun y => !att L y x || ansB L R Q x y) (fun f => ?_) (fun y f hy => ?_) (by omega)
  · rw [F_spec_l08Strategy_l3.eq_2, show (frm c L).fCount = (c : Int) from rfl, dlt_f (by omega), cond_false]
  · have hb : (gr c L).fBy = tab c fun b => (msk 10 (fun a => att L a b) : Int) := rfl
    rw [F_spec_l08Strategy_l3.eq_2, show (frm c L).fCount = (c : Int) from rfl, dlt_t hy, cond_true]
    dsimp only
    rw [idx_nat hxR, beq_eq_false_iff_ne.2 hx0, cond_false, hb, idx_tab hx, spInMask (by omega), Option.bind_some, Option.bind_some, W_succ10 hy (by omega)]
    cases ha : att L y x with
    | false => rfl
    | true =>
      have hyQ : y < Q.length := by omega
      have hyR : y < R.length := by omega
      rw [Bool.not_true, cond_false, Bool.false_or, idx_nat hyQ, ans_at hxR hyQ]
      obtain ⟨-, q1, q2⟩ := st_rng hst hy hyR hyQ
      by_cases hq : Q[y] < 0
      · rw [decide_eq_true hq]; rfl
      · obtain ⟨z, hz⟩ : ∃ z : Nat, Q[y] = z := ⟨(Q[y]).toNat, by omega⟩
        rw [hz] at q2
        have hzR : z < R.length := by omega
        rw [decide_eq_false hq, cond_false, hz, idx_tab hy, spInMask (by omega), Option.bind_some, idx_nat hzR, idx_nat hzR, idx_nat hxR, Int.toNat_natCast, List.getElem?_eq_getElem hzR, not_ge]
        dsimp only
        cases att L z y <;> cases (R[z] == 0) <;> cases decide (R[z] < R[x]) <;> rfl
include hc hL hR hQ hst in
theorem sp_st2 : F_spec_l08Strategy_l2 (frm c L) ⟨R, Q⟩ (gr c L) (Int.toNat ((c : Int) - 0) + 2) 0 = bif (List.range c).all (rowB L R Q) then some (Sum.inr ()) else some (Sum.inl false) := by
  refine all_loopG (n := c) (F := F_spec_l08Strategy_l2 (frm c L) ⟨R, Q⟩ (gr c L)) (rowB L R Q) (fun f => ?_) (fun x f hx => ?_) (by omega)
  · rw [F_spec_l08Strategy_l2.eq_2, show (frm c L).fCount = (c : Int) from rfl, dlt_f (by omega), cond_false]
  · rw [F_spec_l08Strategy_l2.eq_2, show (frm c L).fCount = (c : Int) from rfl, dlt_t hx, cond_true, W_succ10 hx (by omega)]
    have hxR : x < R.length := by omega
    by_cases hx0 : R[x] = 0
    · have h3 : F_spec_l08Strategy_l3 (frm c L) ⟨R, Q⟩ (x : Int) (gr c L) (Int.toNat ((c : Int) - 0) + 2) 0 = some (Sum.inr ()) := by
        have := all_loopG (n := c) (F := F_spec_l08Strategy_l3 (frm c L) ⟨R, Q⟩ (x : Int) (gr c L)) (fun _ => true) (good := some (Sum.inr ())) (bad := none) (fun f => ?_) (fun y f hy => ?_) (m := Int.toNat ((c : Int) - 0) + 2) (by omega)
        · rw [this, List.all_eq_true.2 (fun _ _ => rfl)]; rfl
        · rw [F_spec_l08Strategy_l3.eq_2, show (frm c L).fCount = (c : Int) from rfl, dlt_f (by omega), cond_false]
        · rw [F_spec_l08Strategy_l3.eq_2, show (frm c L).fCount = (c : Int) from rfl, dlt_t hy, cond_true]
          dsimp only
          rw [idx_nat hxR, beq_iff_eq.2 hx0, cond_true, Option.bind_some, cond_true, cond_true, W_succ10 hy (by omega)]
      rw [h3, show rowB L R Q x = true by unfold rowB; rw [List.getElem?_eq_getElem hxR]; dsimp only; rw [hx0]; rfl]; rfl
    · rw [sp_st3 hc hR hQ hst hx hxR hx0, show rowB L R Q x = (List.range c).all fun y => !att L y x || ansB L R Q x y by unfold rowB; rw [List.getElem?_eq_getElem hxR]; dsimp only; rw [beq_eq_false_iff_ne.2 hx0, Bool.false_or, row_cut hL hc]]
      cases (List.range c).all fun y => !att L y x || ansB L R Q x y <;> rfl
theorem lst_all {n : Nat} {p q : Nat → Bool} : ((List.range (lst n p).length).all fun i => q ((lst n p)[i]!).toNat) = (List.range n).all fun y => !p y || q y := by
  rw [Bool.eq_iff_iff, List.all_eq_true, List.all_eq_true]
  constructor
  · intro h y hy
    cases hp : p y with
    | false => rfl
    | true =>
      obtain ⟨i, hi, e⟩ := List.getElem_of_mem (mem_lst.2 ⟨y, List.mem_range.1 hy, hp, rfl⟩)
      have := h i (List.mem_range.2 hi)
      rw [getElem!_pos _ i hi, e] at this
      rw [show q y = true from this]; rfl
  · intro h i hi
    have hi2 := List.mem_range.1 hi
    obtain ⟨a, e, h1, h2⟩ := lst_get hi2
    have := h a (List.mem_range.2 h1)
    rw [h2, Bool.not_true, Bool.false_or] at this
    rw [getElem!_pos _ i hi2, e]; exact this
include hL hl hR hQ hst in
theorem im_st3 {x : Nat} (hxR : x < R.length) : F_impl_IsStrategy_l3 (lst 10 fun y => att L y x) ⟨R, Q⟩ (frm c L) R[x] ((lst 10 fun y => att L y x).length + 1) 0 = bif (List.range 10).all (fun y => !att L y x || ansB L R Q x y) then some (Sum.inr ()) else some (Sum.inl false) := by
  rw [← lst_all (n := 10) (p := fun y => att L y x) (q := ansB L R Q x)]
  have hlen := lst_len (n := 10) (p := fun y => att L y x)
  refine all_loopG (n := (lst 10 fun y => att L y x).length) (F := F_impl_IsStrategy_l3 (lst 10 fun y => att L y x) ⟨R, Q⟩ (frm c L) R[x]) _ (fun f => ?_) (fun i f hi => ?_) (by omega)
  · rw [F_impl_IsStrategy_l3.eq_2, dlt_f (by omega), cond_false]
  · obtain ⟨y, e, h1, h2⟩ := lst_get hi
    have hy : y < c := by
      by_cases h : y < c
      · exact h
      · rw [att_out hL (by omega)] at h2; cases h2
    rw [F_impl_IsStrategy_l3.eq_2, dlt_t hi, cond_true, idx_nat hi, e, getElem!_pos _ i hi, e, Int.toNat_natCast]
    dsimp only
    have hyQ : y < Q.length := by omega
    have hyR : y < R.length := by omega
    rw [idx_nat hyQ, ans_at hxR hyQ, W_succ10 hi (by omega)]
    obtain ⟨-, q1, q2⟩ := st_rng hst hy hyR hyQ
    by_cases hq : Q[y] < 0
    · rw [decide_eq_true hq]; rfl
    · obtain ⟨z, hz⟩ : ∃ z : Nat, Q[y] = z := ⟨(Q[y]).toNat, by omega⟩
      rw [hz] at q2
      have hzR : z < R.length := by omega
      rw [decide_eq_false hq, cond_false, hz, imAttacks hl, Option.bind_some, idx_nat hzR, idx_nat hzR, Int.toNat_natCast, List.getElem?_eq_getElem hzR, not_ge]
      dsimp only
      cases att L z y <;> cases (R[z] == 0) <;> cases decide (R[z] < R[x]) <;> rfl
include hc hL hl hR hQ hst in
theorem im_st2 : F_impl_IsStrategy_l2 ⟨R, Q⟩ (tab c fun b => GInt.mk (msk 10 (fun a => att L a b) : Int)) (frm c L) (R.length + 1) 0 = some ((List.range c).all (rowB L R Q)) := by
  have := all_loopG (n := c) (F := F_impl_IsStrategy_l2 ⟨R, Q⟩ (tab c fun b => GInt.mk (msk 10 (fun a => att L a b) : Int)) (frm c L)) (rowB L R Q) (good := some true) (bad := some false) (fun f => ?_) (fun x f hx => ?_) (m := R.length + 1) (by omega)
  · rw [this]; cases (List.range c).all (rowB L R Q) <;> rfl
  · rw [F_impl_IsStrategy_l2.eq_2]; dsimp only; rw [hR, dlt_f (by omega), cond_false]
  · rw [F_impl_IsStrategy_l2.eq_2]
    dsimp only
    have hxR : x < R.length := by omega
    rw [hR, dlt_t hx, cond_true, idx_nat hxR, idx_tab hx, imSetOf (by decide), Option.bind_some, W_succ10 hx (by omega), im_st3 hL hl hR hQ hst hxR]
    unfold rowB
    rw [List.getElem?_eq_getElem hxR]
    dsimp only
    cases (R[x] == 0) <;> cases ((List.range 10).all fun y => !att L y x || ansB L R Q x y) <;> rfl
end
theorem eqStrat (f : DFrame) (a : Int) (s : DStrategy) (hs : smF f) : ∃ r, F_spec_IsStrategy f a s = some r ∧ F_impl_IsStrategy f a s = some r := by
  obtain ⟨R, Q⟩ := s
  unfold F_spec_IsStrategy F_impl_IsStrategy F_spec_l08Strategy F_spec_l08Has F_impl_isArgument
  rw [spFrame f hs, imFrame f hs, spIn, imIn]
  dsimp only [Option.bind_some]
  cases h1 : frameOk f with
  | false => exact ⟨false, rfl, rfl⟩
  | true =>
    obtain ⟨c, L, hc, rfl, hL, hLl⟩ := frame_nat hs h1
    rw [show (frm c L).fCount = (c : Int) from rfl, W_id (n := (c : Int) - 1) (by omega) (by omega)]
    cases h2 : within a 0 ((c : Int) - 1) with
    | false => exact ⟨false, rfl, rfl⟩
    | true =>
      rw [within_iff] at h2
      obtain ⟨n, rfl⟩ : ∃ n : Nat, a = n := ⟨a.toNat, by omega⟩
      by_cases hR : R.length = c
      · by_cases hQ : Q.length = c
        · have hn : n < c := by omega
          have hnR : n < R.length := by omega
          have hnQ : n < Q.length := by omega
          rw [bne_f (show (R.length : Int) = c by omega), bne_f (show (Q.length : Int) = c by omega), sp_st1 hc hR hQ, im_st1 hc hR hQ, idx_nat hnR, idx_nat hnR]
          cases hst : (List.range c).all (stC c R Q) with
          | false => cases (R[n] == 0) <;> exact ⟨false, rfl, rfl⟩
          | true =>
            obtain ⟨⟨r0, r1⟩, -⟩ := st_rng hst hn hnR hnQ
            rw [spOf hc hL hLl, imAttackers hc hL hLl]
            dsimp only [Option.bind_some, cond_true, cond_false, sumK]
            rw [sp_st2 hc hL hR hQ hst, im_st2 hc hL hLl hR hQ hst]
            by_cases h0 : R[n] = 0
            · rw [h0]
              cases (List.range c).all (rowB L R Q) <;> exact ⟨false, rfl, rfl⟩
            · rw [show (R[n] == 0) = false from beq_eq_false_iff_ne.2 h0, show decide (R[n] > 0) = true from decide_eq_true (by omega)]
              cases (List.range c).all (rowB L R Q)
              · exact ⟨false, rfl, rfl⟩
              · exact ⟨true, rfl, rfl⟩
        · rw [bne_f (show (R.length : Int) = c by omega), bne_t (show (Q.length : Int) ≠ c by omega)]; exact ⟨false, rfl, rfl⟩
      · rw [bne_t (show (R.length : Int) ≠ c by omega)]; exact ⟨false, rfl, rfl⟩
end Go.FX
