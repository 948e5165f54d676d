/- The pure part: what the functions compute, in plain Lean, with no program in sight; no condition. -/
import Derived.Test.YtcginliajfemcaaA3Pure1
namespace Go.FX
open Go Go.GL Go.RowKit
/-! valid frames over natural numbers -/
def frm (c : Nat) (L : List (Nat × Nat)) : DFrame := ⟨c, L.map fun e => [(e.1 : Int), (e.2 : Int)]⟩
theorem frame_nat {f : DFrame} (hs : smF f) (h : frameOk f = true) : ∃ (c : Nat) (L : List (Nat × Nat)), c ≤ 10 ∧ f = frm c L ∧ (∀ e ∈ L, e.1 < c ∧ e.2 < c) ∧ L.length ≤ maxLen := by
  obtain ⟨n, A⟩ := f
  unfold frameOk at h
  rw [Bool.and_eq_true, decide_eq_true_eq, within_iff] at h
  obtain ⟨h1, h2, h3⟩ := h
  have h2 : 0 ≤ n := h2
  have h3 : n ≤ 10 := h3
  have hw : IntKind.i64.wrap (n - 1) = n - 1 := W_id (by omega) (by omega)
  have hA : ∀ a ∈ A, ∃ x y : Nat, a = [(x : Int), (y : Int)] ∧ (x : Int) < n ∧ (y : Int) < n := by
    intro a ha
    obtain ⟨i, hi, rfl⟩ := List.getElem_of_mem ha
    have := h1 i hi
    rw [frameC_at (f := ⟨n, A⟩) hi, Bool.and_eq_true] at this
    have hk := this.1
    match hm : A[i], hk with
    | [x, y], hk =>
      have hk2 : (within x 0 (IntKind.i64.wrap (n - 1)) && within y 0 (IntKind.i64.wrap (n - 1))) = true := hk
      rw [Bool.and_eq_true, hw, within_iff, within_iff] at hk2
      exact ⟨x.toNat, y.toNat, by rw [Int.toNat_of_nonneg (by omega), Int.toNat_of_nonneg (by omega)], by omega, by omega⟩
  refine ⟨n.toNat, A.map fun a => ((a[0]!).toNat, (a[1]!).toNat), by omega, ?_, ?_, by rw [List.length_map]; exact hs.1⟩
  · unfold frm
    rw [Int.toNat_of_nonneg h2, List.map_map]
    congr 1
    refine (List.map_id A).symm.trans (List.map_congr_left fun a ha => ?_)
    obtain ⟨x, y, rfl, -, -⟩ := hA a ha
    simp
  · intro e he
    obtain ⟨a, ha, rfl⟩ := List.mem_map.1 he
    obtain ⟨x, y, rfl, h4, h5⟩ := hA a ha
    simp; omega
def att (L : List (Nat × Nat)) (a b : Nat) : Bool := L.any fun e => e.1 == a && e.2 == b
theorem att_take {L : List (Nat × Nat)} {i : Nat} (h : i < L.length) (a b : Nat) : att (L.take (i + 1)) a b = (att (L.take i) a b || (L[i].1 == a && L[i].2 == b)) := by
  unfold att
  rw [List.take_succ_eq_append_getElem h, List.any_append]; simp
def gr (c : Nat) (L : List (Nat × Nat)) : DGraph := ⟨c, tab c fun a => (msk 10 (att L a) : Int), tab c fun b => (msk 10 (fun a => att L a b) : Int)⟩
section
variable {c : Nat} {L : List (Nat × Nat)} (hc : c ≤ 10) (hL : ∀ e ∈ L, e.1 < c ∧ e.2 < c) (hl : L.length ≤ maxLen)
theorem frm_len : (frm c L).fAttacks.length = L.length := List.length_map _
theorem frm_idx {β : Type} {i : Nat} {k : List Int → Option β} (h : i < L.length) : idx (frm c L).fAttacks (i : Int) k = k [(L[i].1 : Int), (L[i].2 : Int)] := by
  rw [idx_nat (by rw [frm_len]; exact h)]
  congr 1
  simp [frm]
theorem pair0 {α β : Type} {x y : α} {k : α → Option β} : idx [x, y] 0 k = k x := by rw [idx0 (by simp)]; rfl
theorem pair1 {α β : Type} {x y : α} {k : α → Option β} : idx [x, y] 1 k = k y := by
  rw [show (1 : Int) = ((1 : Nat) : Int) from rfl, idx_nat (by simp)]; rfl
theorem hitsStep {g : Nat → Nat → Bool} {a b : Nat} (hb : b < 10) :
    (tab c fun i => (msk 10 (g i) : Int)).set a (ibits .or .i64 (msk 10 (g a) : Int) (ishl .i64 1 (b : Int))) = tab c fun i => (msk 10 (fun j => g i j || (a == i && b == j)) : Int) := by
  rw [set_tab]
  refine tab_congr fun i _ => ?_
  rw [m_one (n := 10) (by decide) hb, m_or (by decide)]
  by_cases h : i = a
  · subst h
    rw [if_pos rfl]
    congr 1
    refine msk_congr fun j _ => ?_
    rw [beq_self_eq_true, Bool.true_and]
    congr 1
    rw [Bool.eq_iff_iff]; simp; exact eq_comm
  · rw [if_neg h]
    congr 1
    refine msk_congr fun j _ => ?_
    rw [beq_eq_false_iff_ne.2 (fun e => h e.symm)]; simp
include hc hL hl in
theorem spOf : F_spec_l08Of (frm c L) = some (gr c L) := by
  unfold F_spec_l08Of
  have e0 : (frm c L).fCount = (c : Int) := rfl
  rw [e0, mk_ok (by omega), mk_ok (by omega), Option.bind_some, Int.toNat_natCast, rep_tab, frm_len]
  have key := up0 (n := L.length) (P := fun i f => F_spec_l08Of_l1 (frm c L) f (tab c fun a => (msk 10 (att (L.take i) a) : Int)) (tab c fun b => (msk 10 (fun a => att (L.take i) a b) : Int)) (i : Int) = some (gr c L)) (fun f => ?_) (fun i f hi ih => ?_)
  · have z : ∀ a b, att (L.take 0) a b = false := fun a b => rfl
    have z2 : ∀ a, att (L.take 0) a = fun _ => false := fun a => rfl
    simp only [z, z2, msk_zero] at key
    exact key
  · rw [F_spec_l08Of_l1.eq_2, frm_len, dlt_f (by omega), cond_false, List.take_length]; rfl
  · obtain ⟨h1, h2⟩ := hL _ (List.getElem_mem hi)
    rw [F_spec_l08Of_l1.eq_2, frm_len, dlt_t hi, cond_true]
    simp only [frm_idx hi, pair0, pair1, idx_tab h1, idx_tab h2, U_nat (n := L[i].1) (by omega), U_nat (n := L[i].2) (by omega), shc_nat, Int.toNat_natCast, W_succ hi hl]
    rw [hitsStep (by omega), hitsStep (g := fun b a => att (L.take i) a b) (by omega)]
    rw [show (fun a => (msk 10 (att (L.take (i + 1)) a) : Int)) = fun a => (msk 10 (fun b => att (L.take i) a b || (L[i].1 == a && L[i].2 == b)) : Int) from by funext a; congr 1; exact msk_congr fun b _ => att_take hi a b] at ih
    rw [← ih]
    congr 1
    refine tab_congr fun b _ => ?_
    congr 1
    refine msk_congr fun a _ => ?_
    rw [att_take hi]
    congr 1
    exact Bool.and_comm _ _
include hc hL hl in
theorem imAttackers : F_impl_Frame_attackers (frm c L) = some (tab c fun b => GInt.mk (msk 10 (fun a => att L a b) : Int)) := by
  unfold F_impl_Frame_attackers
  have e0 : (frm c L).fCount = (c : Int) := rfl
  rw [e0, mk_ok (by omega), Int.toNat_natCast, rep_tab, frm_len]
  have key := up0 (n := L.length) (P := fun i f => F_impl_Frame_attackers_l1 (frm c L) f (tab c fun b => GInt.mk (msk 10 (fun a => att (L.take i) a b) : Int)) (i : Int) = some (tab c fun b => GInt.mk (msk 10 (fun a => att L a b) : Int))) (fun f => ?_) (fun i f hi ih => ?_)
  · have z : ∀ a b, att (L.take 0) a b = false := fun a b => rfl
    simp only [z, msk_zero] at key
    exact key
  · rw [F_impl_Frame_attackers_l1.eq_2, frm_len, dlt_f (by omega), cond_false, List.take_length]
  · obtain ⟨h1, h2⟩ := hL _ (List.getElem_mem hi)
    rw [F_impl_Frame_attackers_l1.eq_2, frm_len, dlt_t hi, cond_true]
    simp only [frm_idx hi, pair0, pair1, idx_tab h2, shc_nat, Int.toNat_natCast, W_succ hi hl]
    rw [← ih, set_tab]
    congr 1
    refine tab_congr fun b _ => ?_
    rw [m_one (n := 10) (by decide) (by omega), m_or (by decide)]
    simp only [att_take hi]
    by_cases h : b = L[i].2
    · subst h
      rw [if_pos rfl]
      congr 2
      refine msk_congr fun a _ => ?_
      rw [beq_self_eq_true, Bool.and_true]
      congr 1
      rw [Bool.eq_iff_iff]; simp; exact eq_comm
    · rw [if_neg h]
      congr 2
      refine msk_congr fun a _ => ?_
      rw [beq_eq_false_iff_ne.2 (fun e => h e.symm)]; simp
/-! sets -/
def hitB (L : List (Nat × Nat)) (s : Nat → Bool) (b : Nat) : Bool := L.any fun e => s e.1 && e.2 == b
theorem hit_eq {s : Nat → Bool} {b : Nat} (hL : ∀ e ∈ L, e.1 < c ∧ e.2 < c) : ((List.range c).any fun a => s a && att L a b) = hitB L s b := by
  rw [Bool.eq_iff_iff]
  simp only [hitB, att, List.any_eq_true, Bool.and_eq_true, List.mem_range, beq_iff_eq]
  constructor
  · rintro ⟨a, _, h1, e, he, rfl, h2⟩; exact ⟨e, he, h1, h2⟩
  · rintro ⟨e, he, h1, h2⟩; exact ⟨e.1, (hL e he).1, h1, e, he, rfl, h2⟩
theorem spInMask {p : Nat → Bool} {i : Nat} (h : i < 10) : F_spec_l08In (msk 10 p : Int) (i : Int) = some (p i) := by
  unfold F_spec_l08In
  rw [U_nat (by omega), shc_nat, m_bit (by decide) h]
theorem W_succ10 {i n : Nat} (h : i < n) (hn : n ≤ 64) : IntKind.i64.wrap ((i : Int) + 1) = ((i + 1 : Nat) : Int) := W_succ h (by unfold maxLen; omega)
include hc hL in
theorem spHit {s : Nat → Bool} : F_spec_l08Graph_hit (gr c L) (msk 10 s : Int) = some (msk 10 (hitB L s) : Int) := by
  unfold F_spec_l08Graph_hit
  have e0 : (gr c L).fCount = (c : Int) := rfl
  rw [e0, show Int.toNat ((c : Int) - 0) + 2 = c + 2 by omega]
  have key := up (n := c) (P := fun i f => F_spec_l08Graph_hit_l1 (gr c L) (msk 10 s : Int) f (msk 10 (fun b => (List.range i).any fun a => s a && att L a b) : Int) (i : Int) = some (msk 10 (hitB L s) : Int)) (fun f => ?_) (fun i f hi ih => ?_) c 0 (c + 2) (by omega) (by omega)
  · simp only [List.range_zero, List.any_nil, msk_zero] at key
    exact key
  · rw [F_spec_l08Graph_hit_l1.eq_2, e0, dlt_f (by omega), cond_false]
    simp only [hit_eq hL]
  · rw [F_spec_l08Graph_hit_l1.eq_2, e0, dlt_t hi, cond_true, spInMask (by omega), Option.bind_some, W_succ10 hi (by omega)]
    rw [show (gr c L).fHits = tab c fun a => (msk 10 (att L a) : Int) from rfl, idx_tab hi, m_or (by decide), ← ih]
    cases hs : s i with
    | true =>
      rw [cond_true]
      congr 2
      refine msk_congr fun b _ => ?_
      rw [List.range_succ, List.any_append]; simp [hs]
    | false =>
      rw [cond_false]
      congr 2
      refine msk_congr fun b _ => ?_
      rw [List.range_succ, List.any_append]; simp [hs]
include hc hL hl in
theorem imAttacked {s : Nat → Bool} : F_impl_Frame_attacked (frm c L) (msk 10 s : Int) = some (msk 10 (hitB L s) : Int) := by
  unfold F_impl_Frame_attacked
  rw [frm_len]
  have key := up0 (n := L.length) (P := fun i f => F_impl_Frame_attacked_l1 (frm c L) (msk 10 s : Int) f (msk 10 (hitB (L.take i) s) : Int) (i : Int) = some (msk 10 (hitB L s) : Int)) (fun f => ?_) (fun i f hi ih => ?_)
  · rw [show (hitB (L.take 0) s) = fun _ => false from rfl, msk_zero] at key
    exact key
  · rw [F_impl_Frame_attacked_l1.eq_2, frm_len, dlt_f (by omega), cond_false, List.take_length]
  · obtain ⟨h1, h2⟩ := hL _ (List.getElem_mem hi)
    rw [F_impl_Frame_attacked_l1.eq_2, frm_len, dlt_t hi, cond_true]
    simp only [frm_idx hi, pair0, pair1, shc_nat, W_succ hi hl, m_bit (n := 10) (p := s) (by decide) (show L[i].1 < 10 by omega), m_one (n := 10) (by decide) (show L[i].2 < 10 by omega), m_or (n := 10) (by decide)]
    rw [← ih]
    cases hs : s L[i].1 with
    | true =>
      rw [cond_true]
      congr 2
      refine msk_congr fun b _ => ?_
      unfold hitB
      rw [List.take_succ_eq_append_getElem hi, List.any_append]
      simp only [List.any_cons, List.any_nil, Bool.or_false, hs, Bool.true_and]
      congr 1
      rw [Bool.eq_iff_iff]; simp; exact eq_comm
    | false =>
      rw [cond_false]
      congr 2
      refine msk_congr fun b _ => ?_
      unfold hitB
      rw [List.take_succ_eq_append_getElem hi, List.any_append]
      simp [hs]
end
end Go.FX
