/- The pure part: what the functions compute, in plain Lean, with no program in sight; no condition. -/
import Derived.Test.YtegfiapfgffcgaaBbPure3
import Derived.Test.YtegfiapfgffcgaaBbLib2
namespace Go.FX
open Go Go.GL Go.RowKit
section
variable {m : Nat} {C : List Nat} {A : List (Nat → Bool)} (h : Elec m C A)
include h
theorem cmpGreedy {i j : Nat} (hi : i < C.length) (hj : j < C.length) : F_impl_GreedyBudget_1 (i : Int) (j : Int) (ele m C A) = some ((kk A j : Int) - (kk A i : Int)) := by
  have := h.a6
  have k1 := kk_le (A := A) (i := i); have k2 := kk_le (A := A) (i := j)
  unfold F_impl_GreedyBudget_1
  rw [imSup h hj, Option.bind_some, imSup h hi, Option.bind_some]
  unfold kk at *
  rw [W_id (by omega) (by omega)]
def nltB (A : List (Nat → Bool)) (x y : Int) : Bool := decide (kk A y.toNat < kk A x.toNat)
theorem imGreedySort {l : List Int} (hl : l.length < 20) (hP : ∀ x ∈ l, ∃ i : Nat, x = i ∧ i < C.length) : F_slices_SortStableFunc_int64_int64__impl_GreedyBudget_1 l (ele m C A) = some ((sortB (nltB A) l).reverse) := by
  unfold F_slices_SortStableFunc_int64_int64__impl_GreedyBudget_1 F_slices_stableCmpFunc_int64__impl_GreedyBudget_1
  have hins : F_slices_insertionSortCmpFunc_int64__impl_GreedyBudget_1 l 0 (l.length : Int) (ele m C A) = some ((sortB (nltB A) l).reverse) :=
    isort_whole (F := F_slices_insertionSortCmpFunc_int64__impl_GreedyBudget_1_l2 0 (ele m C A)) (G := F_slices_insertionSortCmpFunc_int64__impl_GreedyBudget_1_l1 (l.length : Int) 0 (ele m C A))
      (cmp := fun u v => F_impl_GreedyBudget_1 u v (ele m C A)) (P := fun x => ∃ i : Nat, x = i ∧ i < C.length) (fun _ _ _ => rfl)
      (fun u v hu hv => by
        obtain ⟨i, rfl, hi⟩ := hu
        obtain ⟨j, rfl, hj⟩ := hv
        refine ⟨_, cmpGreedy h hi hj, ?_⟩
        unfold nltB
        rw [decide_eq_decide]
        simp only [Int.toNat_natCast]
        omega) (fun _ _ _ => rfl) (by omega) hP
  have l1 : F_slices_stableCmpFunc_int64__impl_GreedyBudget_1_l1 (l.length : Int) (ele m C A) (Int.toNat ((l.length : Int) - 20) + 2) l 0 20 = some (l, 0) := by
    rw [F_slices_stableCmpFunc_int64__impl_GreedyBudget_1_l1.eq_2, decide_eq_false (by omega), cond_false]
  have l2 (x : List Int) : F_slices_stableCmpFunc_int64__impl_GreedyBudget_1_l2 (l.length : Int) x (Int.toNat ((l.length : Int) - 20) + 2) 20 = some x := by
    rw [F_slices_stableCmpFunc_int64__impl_GreedyBudget_1_l2.eq_2, decide_eq_false (by omega), cond_false]
  rw [l1]
  simp only [Option.bind_some]
  rw [hins, Option.bind_some, l2, Option.bind_some]
end
/-! the sort is the one by buckets -/
theorem insR_insp {k : Nat → Nat} {x : Nat} : ∀ {ys : List Nat}, ys.Pairwise (fun a b => k a ≤ k b) → (insR (fun x y => decide (k y < k x)) x ys).reverse = insp k ys.reverse x := by
  intro ys
  induction ys with
  | nil => intro _; rfl
  | cons y ys ih =>
    intro hp
    rw [List.pairwise_cons] at hp
    unfold insR insp
    by_cases e : k y < k x
    · rw [decide_eq_true e, cond_true, List.reverse_cons, ih hp.2]
      unfold insp
      rw [List.reverse_cons, List.filter_append, List.filter_append]
      have : ¬ k x ≤ k y := by omega
      simp [e, this]
    · rw [decide_eq_false e, cond_false]
      have h1 : (y :: ys).reverse.filter (fun z => decide (k x ≤ k z)) = (y :: ys).reverse := List.filter_eq_self.2 fun z hz => by
        rcases List.mem_cons.1 (List.mem_reverse.1 hz) with rfl | hz
        · exact decide_eq_true (by omega)
        · have := hp.1 z hz
          exact decide_eq_true (by omega)
      have h2 : (y :: ys).reverse.filter (fun z => decide (k z < k x)) = [] := List.filter_eq_nil_iff.2 fun z hz => by
        rcases List.mem_cons.1 (List.mem_reverse.1 hz) with rfl | hz
        · simp; omega
        · have := hp.1 z hz
          simp; omega
      rw [h1, h2]
      simp
theorem sort_bk {k : Nat → Nat} {v : Nat} : ∀ (n : Nat), (∀ x, x < n → k x ≤ v) → (sortB (fun x y => decide (k y < k x)) (List.range n)).reverse = bk k (List.range n) v := by
  intro n
  induction n with
  | zero =>
    intro _
    have : ∀ v, bk k [] v = [] := by intro v; induction v with | zero => rfl | succ v ih => rw [bk, ih]; rfl
    exact (this v).symm
  | succ n ih =>
    intro h
    have ih := ih fun x hx => h x (by omega)
    rw [List.range_succ, sortB_snoc, insR_insp, ih, bk_insp k (h n (by omega))]
    have := bk_sorted k (L := List.range n) (v := v)
    rw [← ih, List.pairwise_reverse] at this
    exact this
/-! the greedy budget -/
def gst (C : List Nat) (s : List Int × Int) (p : Nat) : List Int × Int := if (C[p]! : Int) ≤ s.2 then (s.1 ++ [(p : Int)], s.2 - C[p]!) else s
theorem gst_len {C : List Nat} {s : List Int × Int} {p : Nat} : (gst C s p).1.length ≤ s.1.length + 1 := by unfold gst; split <;> simp
theorem gst_left {C : List Nat} {s : List Int × Int} {p : Nat} (h : 0 ≤ s.2 ∧ s.2 ≤ 60) : 0 ≤ (gst C s p).2 ∧ (gst C s p).2 ≤ 60 := by
  unfold gst
  split
  · exact ⟨by show 0 ≤ s.2 - _; omega, by show s.2 - _ ≤ 60; omega⟩
  · exact h
def lvl (C : List Nat) (k : Nat → Nat) (v : Nat) (s : List Int × Int) (p : Nat) : List Int × Int := if k p = v then gst C s p else s
theorem lvl_fold {C : List Nat} {k : Nat → Nat} {v : Nat} {L : List Nat} : ∀ {s : List Int × Int}, L.foldl (lvl C k v) s = (L.filter fun p => k p == v).foldl (gst C) s := by
  induction L with
  | nil => intro s; rfl
  | cons p L ih =>
    intro s
    rw [List.foldl_cons, ih, List.filter_cons]
    unfold lvl
    by_cases e : k p = v
    · rw [if_pos e, if_pos (by simp [e])]; rfl
    · rw [if_neg e, if_neg (by simp [e])]
/-- the levels from v down to 1 -/
def down (C : List Nat) (k : Nat → Nat) (L : List Nat) : Nat → List Int × Int → List Int × Int
  | 0, s => s
  | v + 1, s => down C k L v (L.foldl (lvl C k (v + 1)) s)
def pos (C : List Nat) (k : Nat → Nat) (s : List Int × Int) (p : Nat) : List Int × Int := if 0 < k p then gst C s p else s
theorem pos_zero {C : List Nat} {k : Nat → Nat} {L : List Nat} (h : ∀ p ∈ L, k p = 0) : ∀ {s : List Int × Int}, L.foldl (pos C k) s = s := by
  induction L with
  | nil => intro s; rfl
  | cons p L ih => intro s; rw [List.foldl_cons, ih fun q hq => h q (List.mem_cons_of_mem _ hq)]; unfold pos; rw [if_neg (by have := h p (List.mem_cons_self ..); omega)]
theorem pos_gst {C : List Nat} {k : Nat → Nat} {L : List Nat} (h : ∀ p ∈ L, 0 < k p) : ∀ {s : List Int × Int}, L.foldl (pos C k) s = L.foldl (gst C) s := by
  induction L with
  | nil => intro s; rfl
  | cons p L ih =>
    intro s
    have : pos C k s p = gst C s p := if_pos (h p (List.mem_cons_self ..))
    rw [List.foldl_cons, List.foldl_cons, this, ih fun q hq => h q (List.mem_cons_of_mem _ hq)]
theorem down_bk {C : List Nat} {k : Nat → Nat} {L : List Nat} : ∀ {v : Nat} {s : List Int × Int}, down C k L v s = (bk k L v).foldl (pos C k) s := by
  intro v
  induction v with
  | zero => intro s; exact (pos_zero fun p hp => beq_iff_eq.1 (List.mem_filter.1 hp).2).symm
  | succ v ih =>
    intro s
    have e : (L.filter fun p => k p == v + 1).foldl (pos C k) s = (L.filter fun p => k p == v + 1).foldl (gst C) s := pos_gst fun p hp => by
      have : k p = v + 1 := beq_iff_eq.1 (List.mem_filter.1 hp).2
      omega
    rw [down, ih, lvl_fold, bk, List.foldl_append, e]
theorem fold_bound {C : List Nat} {k : Nat → Nat} {v : Nat} {L : List Nat} : ∀ {s : List Int × Int}, (0 ≤ s.2 ∧ s.2 ≤ 60) → (L.foldl (lvl C k v) s).1.length ≤ s.1.length + L.length ∧ (0 ≤ (L.foldl (lvl C k v) s).2 ∧ (L.foldl (lvl C k v) s).2 ≤ 60) := by
  induction L with
  | nil => intro s h; exact ⟨Nat.le_refl _, h⟩
  | cons p L ih =>
    intro s h
    rw [List.foldl_cons]
    have h1 : (lvl C k v s p).1.length ≤ s.1.length + 1 := by unfold lvl; split; exact gst_len; omega
    have h2 : 0 ≤ (lvl C k v s p).2 ∧ (lvl C k v s p).2 ≤ 60 := by unfold lvl; split; exact gst_left h; exact h
    have := ih h2
    simp only [List.length_cons]
    omega
theorem down_bound {C : List Nat} {k : Nat → Nat} {L : List Nat} : ∀ {v : Nat} {s : List Int × Int}, (0 ≤ s.2 ∧ s.2 ≤ 60) → (down C k L v s).1.length ≤ s.1.length + v * L.length := by
  intro v
  induction v with
  | zero => intro s h; exact Nat.le_add_right _ _
  | succ v ih =>
    intro s h
    have h1 := fold_bound (C := C) (k := k) (v := v + 1) (L := L) h
    have h2 := ih h1.2
    rw [down, Nat.succ_mul]
    omega
section
variable {m : Nat} {C : List Nat} {A : List (Nat → Bool)} (h : Elec m C A)
include h
theorem spGreedy2 {v : Nat} {s : List Int × Int} (h1 : s.1.length ≤ 100) (h2 : 0 ≤ s.2 ∧ s.2 ≤ 60) :
    F_spec_GreedyBudget_l2 (ele m C A) (v : Int) ((ele m C A).fCosts.length + 1) s.1 s.2 0 = some ((List.range C.length).foldl (lvl C (kk A) v) s) := by
  have hc := h.c6
  rw [ele_C]
  refine fold_range (F := fun f (s : List Int × Int) i => F_spec_GreedyBudget_l2 (ele m C A) (v : Int) f s.1 s.2 i) (lvl C (kk A) v) some (fun i s => s.1.length ≤ 100 + i ∧ 0 ≤ s.2 ∧ s.2 ≤ 60) (fun f s _ => ?_) (fun f s i hi hs => ?_) (fun s i hi hs => ?_) (by omega) ⟨h1, h2⟩
  · show F_spec_GreedyBudget_l2 _ _ _ _ _ _ = _
    rw [F_spec_GreedyBudget_l2.eq_2, ele_C, dlt_f (by omega)]; rfl
  · show F_spec_GreedyBudget_l2 _ _ _ _ _ _ = F_spec_GreedyBudget_l2 _ _ _ _ _ _
    have hb : C[i]! = C[i] := by simp [hi]
    rw [F_spec_GreedyBudget_l2.eq_2, ele_C, dlt_t hi, cond_true, spSup h hi, Option.bind_some, idx_C hi, W_succ (n := C.length) hi (by unfold maxLen; omega)]
    unfold lvl
    have hk : ((sup A i).length : Int) = kk A i := rfl
    rw [hk]
    by_cases e : kk A i = v
    · rw [if_pos e, e, beq_self_eq_true, cond_true, Option.bind_some]
      unfold gst
      rw [hb]
      by_cases e2 : (C[i] : Int) ≤ s.2
      · have := h.cost C[i] (List.getElem_mem hi)
        rw [if_pos e2, decide_eq_true e2, cond_true, app_ok (by simp; omega), idx_C hi, W_id (by omega) (by omega)]
      · rw [if_neg e2, decide_eq_false e2, cond_false]
    · rw [if_neg e, beq_eq_false_iff_ne.2 (show (kk A i : Int) ≠ (v : Int) by omega), cond_false, Option.bind_some, cond_false]
  · unfold lvl
    split
    · have := gst_len (C := C) (s := s) (p := i); have := gst_left (C := C) (p := i) hs.2; omega
    · omega
theorem spGreedy1 : ∀ (v f : Nat) (s : List Int × Int), v < f → v ≤ 6 → s.1.length ≤ 60 - 6 * v → 0 ≤ s.2 ∧ s.2 ≤ 60 →
    F_spec_GreedyBudget_l1 (ele m C A) f s.1 s.2 (v : Int) = some ((down C (kk A) (List.range C.length) v s).1, true) := by
  have hc := h.c6
  intro v
  induction v with
  | zero =>
    intro f s hf _ _ _
    obtain ⟨f, rfl⟩ : ∃ g, f = g + 1 := ⟨f - 1, by omega⟩
    rw [F_spec_GreedyBudget_l1.eq_2]
    rfl
  | succ v ih =>
    intro f s hf hv hl hs
    obtain ⟨f, rfl⟩ : ∃ g, f = g + 1 := ⟨f - 1, by omega⟩
    rw [F_spec_GreedyBudget_l1.eq_2, decide_eq_true (by omega), cond_true, spGreedy2 h (by omega) hs, Option.bind_some]
    have hb := fold_bound (C := C) (k := kk A) (v := v + 1) (L := List.range C.length) hs
    rw [List.length_range] at hb
    rw [W_pred (by omega) (by unfold maxLen; omega)]
    exact ih f _ (by omega) (by omega) (by omega) hb.2
theorem imGreedyL2 (L : List Nat) (hL : ∀ p ∈ L, p < C.length) (hl : L.length ≤ 6) :
    F_impl_GreedyBudget_l2 (L.map Int.ofNat) (ele m C A) ((L.map Int.ofNat).length + 1) [] (m : Int) 0 = some ((L.foldl (pos C (kk A)) ([], (m : Int))).1, true) := by
  have hc := h.c6; have hm := h.money
  have hlen : (L.map Int.ofNat).length = L.length := List.length_map _
  rw [hlen]
  refine fold_list (l := L) (F := fun f (s : List Int × Int) i => F_impl_GreedyBudget_l2 (L.map Int.ofNat) (ele m C A) f s.1 s.2 i) (pos C (kk A)) (fun s => some (s.1, true)) (fun i s => s.1.length ≤ i ∧ 0 ≤ s.2 ∧ s.2 ≤ 60) (fun f s _ => ?_) (fun f s i hi hs => ?_) (fun s i hi hs => ?_) (s := ([], (m : Int))) (by omega) ⟨by simp, by simp, by simp; omega⟩
  · show F_impl_GreedyBudget_l2 _ _ _ _ _ _ = _
    rw [F_impl_GreedyBudget_l2.eq_2, hlen, dlt_f (by omega)]; rfl
  · show F_impl_GreedyBudget_l2 _ _ _ _ _ _ = F_impl_GreedyBudget_l2 _ _ _ _ _ _
    have hp : L[i] < C.length := hL _ (List.getElem_mem hi)
    have hb : C[L[i]]! = C[L[i]] := by simp [hp]
    have hx : idx (L.map Int.ofNat) (i : Int) = fun (k : Int → Option (List Int × Bool)) => k (L[i] : Int) := by
      funext k
      rw [idx_nat (by rw [hlen]; exact hi), List.getElem_map]; rfl
    rw [F_impl_GreedyBudget_l2.eq_2, hlen, dlt_t hi, cond_true, hx]
    simp only []
    rw [imSup h hp, Option.bind_some, idx_C hp, W_succ (n := L.length) hi (by unfold maxLen; omega), idx_C hp]
    unfold pos
    have hk : ((sup A L[i]).length : Int) = kk A L[i] := rfl
    rw [hk]
    by_cases e : 0 < kk A L[i]
    · rw [if_pos e, decide_eq_true (by omega), cond_true, Option.bind_some]
      unfold gst
      rw [hb]
      by_cases e2 : (C[L[i]] : Int) ≤ s.2
      · have := h.cost C[L[i]] (List.getElem_mem hp)
        rw [if_pos e2, decide_eq_true e2, cond_true, app_ok (by simp; omega), W_id (by omega) (by omega)]
      · rw [if_neg e2, decide_eq_false e2, cond_false]
    · rw [if_neg e, decide_eq_false (by omega), cond_false, Option.bind_some, cond_false]
  · unfold pos
    split
    · have := gst_len (C := C) (s := s) (p := L[i]); have := gst_left (C := C) (p := L[i]) hs.2; omega
    · omega
theorem imGreedyL1 : F_impl_GreedyBudget_l1 (ele m C A) ((ele m C A).fCosts.length + 1) [] 0 = some ((List.range C.length).map Int.ofNat) := by
  have hc := h.c6
  rw [ele_C]
  have := app_loop (b := 1) (n := C.length) (F := F_impl_GreedyBudget_l1 (ele m C A)) (m := C.length + 1) (acc := []) (fun j => [(j : Int)]) some 0
    (fun j _ => by simp) (fun f acc => by rw [F_impl_GreedyBudget_l1.eq_2, ele_C, dlt_f (by omega)]; rfl)
    (fun f acc j hj hacc => by rw [F_impl_GreedyBudget_l1.eq_2, ele_C, dlt_t hj, cond_true, app_ok (by simp; omega), W_succ (n := C.length) hj (by unfold maxLen; omega)]) (by omega) (by simp)
  rw [this, List.nil_append]
  congr 1
  exact (List.map_eq_flatMap ..).symm
end
theorem eqGreedy (e : DElection) (h : smEl e) : ∃ r, F_spec_GreedyBudget e = some r ∧ F_impl_GreedyBudget e = some r ∧ r.1.length ≤ 1048576 := by
  unfold F_spec_GreedyBudget F_impl_GreedyBudget
  rw [spElect e h, imElect e h]
  simp only [Option.bind_some]
  by_cases q : elOk e = true
  · obtain ⟨m, C, A, rfl, he⟩ := elect_nat q
    have hm := he.money; have ha := he.a6; have hc := he.c6
    refine ⟨_, by rw [q, ele_A]; exact spGreedy1 he A.length (A.length + 1) ([], (m : Int)) (by omega) ha (by simp) ⟨by simp, by simp; omega⟩, ?_, ?_⟩
    · rw [q, Bool.not_true, cond_false, imGreedyL1 he, Option.bind_some, imGreedySort he (by simp; omega) (fun x hx => by
        obtain ⟨i, hi, rfl⟩ := List.mem_map.1 hx
        exact ⟨i, rfl, List.mem_range.1 hi⟩), Option.bind_some]
      have hs : (sortB (nltB A) ((List.range C.length).map Int.ofNat)).reverse = (bk (kk A) (List.range C.length) A.length).map Int.ofNat := by
        rw [sortB_map, ← List.map_reverse]
        congr 1
        exact sort_bk C.length (fun x _ => kk_le)
      have hbl : (bk (kk A) (List.range C.length) A.length).length = C.length := by
        rw [← sort_bk C.length (fun x _ => kk_le), List.length_reverse, sortB_perm.length_eq, List.length_range]
      rw [hs]
      have hf := imGreedyL2 he (bk (kk A) (List.range C.length) A.length) (fun p hp => List.mem_range.1 ((bk_mem (kk A)).1 hp).1) (by omega)
      rw [down_bk]
      exact hf
    · have := down_bound (C := C) (k := kk A) (L := List.range C.length) (v := A.length) (s := ([], (m : Int))) ⟨by simp, by simp; omega⟩
      rw [List.length_range] at this
      have h2 : A.length * C.length ≤ 6 * 6 := Nat.mul_le_mul ha hc
      simp only [List.length_nil, Nat.zero_add] at this
      show (down C (kk A) (List.range C.length) A.length ([], (m : Int))).1.length ≤ 1048576
      omega
  · rw [Bool.eq_false_iff.2 q]
    exact ⟨_, rfl, rfl, by simp⟩
end Go.FX
