/- The pure part: what the functions compute, in plain Lean, with no program in sight; no condition. -/
import Derived.Test.YtmeeomkjjnlaoaaRlPure7
namespace Go.FX
open Go Go.GL Go.RowKit
/-! the pairs' weights are small -/
def Bd (M : Nat → Nat → Int) (B : Nat) : Prop := ∀ i j, 0 ≤ M i j ∧ M i j ≤ B
theorem Bd.add {M : Nat → Nat → Int} {B a b : Nat} {w : Nat} (h : Bd M B) (hw : w ≤ 1000) (hB : B ≤ 1000000000) : Bd (addM M a b w) (B + 1000) := by
  intro i j
  have h1 := h a b; have h2 := h i j
  unfold addM
  split
  · rw [W_id (by omega) (by omega)]; omega
  · omega
theorem Bd.row {w a : Nat} (hw : w ≤ 1000) : ∀ {l : List Nat} {M : Nat → Nat → Int} {B : Nat}, Bd M B → B + 1000 * l.length ≤ 1000000000 → Bd (rowM w a l M) (B + 1000 * l.length) := by
  intro l
  induction l with
  | nil => intro M B h _; exact h
  | cons b l ih =>
    intro M B h hB
    rw [List.length_cons] at hB ⊢
    have := ih (h.add (a := a) (b := b) hw (by omega)) (by omega)
    have e : B + 1000 * (l.length + 1) = B + 1000 + 1000 * l.length := by omega
    rw [e]
    exact this
theorem Bd.rank {w : Nat} (hw : w ≤ 1000) : ∀ {l : List Nat} {M : Nat → Nat → Int} {B : Nat}, l.length ≤ 6 → Bd M B → B + 6000 * l.length ≤ 1000000000 → Bd (rankM w l M) (B + 6000 * l.length) := by
  intro l
  induction l with
  | nil => intro M B _ h _; exact h
  | cons a l ih =>
    intro M B hl h hB
    rw [List.length_cons] at hl hB ⊢
    have h1 : Bd (rowM w a l M) (B + 6000) := fun i j => by
      have := Bd.row (a := a) (l := l) hw h (by omega) i j
      omega
    have := ih (by omega) h1 (by omega)
    have e : B + 6000 * (l.length + 1) = B + 6000 + 6000 * l.length := by omega
    rw [e]
    exact this
theorem Bd.prof : ∀ {l : List (List Nat × Nat)} {M : Nat → Nat → Int} {B : Nat}, (∀ x ∈ l, x.1.length ≤ 6 ∧ x.2 ≤ 1000) → Bd M B → B + 36000 * l.length ≤ 1000000000 → Bd (profM l M) (B + 36000 * l.length) := by
  intro l
  induction l with
  | nil => intro M B _ h _; exact h
  | cons x l ih =>
    intro M B hx h hB
    rw [List.length_cons] at hB ⊢
    obtain ⟨r, w⟩ := x
    have hr := hx (r, w) (List.mem_cons_self ..)
    simp only at hr
    have h1 : Bd (rankM w r M) (B + 36000) := fun i j => by
      have := Bd.rank hr.2 hr.1 h (by omega) i j
      omega
    have := ih (fun y hy => hx y (List.mem_cons_of_mem _ hy)) h1 (by omega)
    have e : B + 36000 * (l.length + 1) = B + 36000 + 36000 * l.length := by omega
    rw [e]
    exact this
theorem pair_bd {n : Nat} {R : List (List Nat)} {T : List Nat} (h : Prof n R T) : Bd (pairM R T) 432000 := by
  have h12 := h.r12; have hw := h.wl; have h6 := h.n6
  have hz : (R.zip T).length ≤ 12 := by rw [List.length_zip]; omega
  have := Bd.prof (l := R.zip T) (M := fun _ _ => 0) (B := 0) (fun x hx => ⟨by have := h.len x.1 (List.of_mem_zip hx).1; omega, h.wt x.2 (List.of_mem_zip hx).2⟩) (fun _ _ => ⟨by simp, by simp⟩) (by omega)
  intro i j
  have := this i j
  unfold pairM
  omega
/-! duels -/
def duel (M : Nat → Nat → Int) (x : Nat × Nat) : DDuel := ⟨(x.1 : Int), (x.2 : Int), M x.1 x.2, M x.2 x.1⟩
def prsI (n : Nat) (M : Nat → Nat → Int) (i : Nat) : List (Nat × Nat) := (List.range n).flatMap fun k => if M i k > M k i then [(i, k)] else []
def prs (n : Nat) (M : Nat → Nat → Int) : List (Nat × Nat) := (List.range n).flatMap (prsI n M)
def dlt (M : Nat → Nat → Int) (x y : Nat × Nat) : Bool := decide (M x.1 x.2 > M y.1 y.2) || (decide (M x.1 x.2 = M y.1 y.2) && decide (M x.2 x.1 < M y.2 y.1))
theorem mem_prsI {n i : Nat} {M : Nat → Nat → Int} {x : Nat × Nat} : x ∈ prsI n M i ↔ x.1 = i ∧ x.2 < n ∧ M i x.2 > M x.2 i := by
  unfold prsI
  rw [List.mem_flatMap]
  constructor
  · rintro ⟨k, hk, hx⟩
    split at hx
    · rename_i q
      rw [List.mem_singleton] at hx
      subst hx
      exact ⟨rfl, List.mem_range.1 hk, q⟩
    · cases hx
  · rintro ⟨h1, h2, h3⟩
    refine ⟨x.2, List.mem_range.2 h2, ?_⟩
    rw [if_pos h3, ← h1]
    simp
theorem mem_prs {n : Nat} {M : Nat → Nat → Int} {x : Nat × Nat} : x ∈ prs n M ↔ x.1 < n ∧ x.2 < n ∧ M x.1 x.2 > M x.2 x.1 := by
  unfold prs
  rw [List.mem_flatMap]
  constructor
  · rintro ⟨i, hi, hx⟩
    obtain ⟨rfl, h2, h3⟩ := mem_prsI.1 hx
    exact ⟨List.mem_range.1 hi, h2, h3⟩
  · rintro ⟨h1, h2, h3⟩
    exact ⟨x.1, List.mem_range.2 h1, mem_prsI.2 ⟨rfl, h2, h3⟩⟩
/-- the order in which the pairs are met -/
def lex (x y : Nat × Nat) : Prop := x.1 < y.1 ∨ (x.1 = y.1 ∧ x.2 < y.2)
theorem prsI_lex {n i : Nat} {M : Nat → Nat → Int} : (prsI n M i).Pairwise lex := by
  unfold prsI
  induction n with
  | zero => simp
  | succ n ih =>
    rw [List.range_succ, List.flatMap_append, List.pairwise_append]
    refine ⟨ih, ?_, fun a ha b hb => ?_⟩
    · simp only [List.flatMap_cons, List.flatMap_nil, List.append_nil]
      split <;> simp
    · have h1 : a ∈ prsI n M i := ha
      obtain ⟨e, h2, -⟩ := mem_prsI.1 h1
      simp only [List.flatMap_cons, List.flatMap_nil, List.append_nil] at hb
      split at hb
      · rw [List.mem_singleton] at hb
        subst hb
        exact .inr ⟨e, h2⟩
      · cases hb
theorem prs_lexm {n m : Nat} {M : Nat → Nat → Int} : ((List.range m).flatMap (prsI n M)).Pairwise lex := by
  induction m with
  | zero => simp
  | succ m ih =>
    rw [List.range_succ, List.flatMap_append, List.pairwise_append]
    refine ⟨ih, by simpa using prsI_lex, fun a ha b hb => ?_⟩
    obtain ⟨i, hi, ha⟩ := List.mem_flatMap.1 ha
    have hb : b ∈ prsI n M m := by simpa using hb
    obtain ⟨e1, -, -⟩ := mem_prsI.1 ha
    obtain ⟨e2, -, -⟩ := mem_prsI.1 hb
    have := List.mem_range.1 hi
    exact .inl (by omega)
theorem prs_lex {n : Nat} {M : Nat → Nat → Int} : (prs n M).Pairwise lex := prs_lexm
theorem prs_len {n : Nat} (hn : n ≤ 6) {M : Nat → Nat → Int} : (prs n M).length ≤ 18 := by
  have nd : (prs n M).Nodup := by
    rw [List.nodup_iff_pairwise_ne]
    refine prs_lex.imp ?_
    rintro a b h rfl
    rcases h with h | ⟨-, h⟩ <;> omega
  have nd2 : ((prs n M).map fun x => (x.2, x.1)).Nodup := by
    rw [List.nodup_iff_pairwise_ne, List.pairwise_map]
    refine (List.nodup_iff_pairwise_ne.1 nd).imp ?_
    intro a b h e
    refine h ?_
    simp only [Prod.mk.injEq] at e
    exact Prod.ext e.2 e.1
  have nd3 : (prs n M ++ (prs n M).map fun x => (x.2, x.1)).Nodup := by
    rw [List.nodup_append]
    refine ⟨nd, nd2, ?_⟩
    rintro a ha b hb rfl
    obtain ⟨c, hc, e⟩ := List.mem_map.1 hb
    have h1 := (mem_prs.1 ha).2.2
    have h2 := (mem_prs.1 hc).2.2
    rw [← e] at h1
    simp only at h1
    omega
  have := nd3.length_le_of_subset (l₂ := (List.range 6).flatMap fun i => (List.range 6).map fun k => (i, k)) fun x hx => by
    have hx2 : x.1 < n ∧ x.2 < n := by
      rcases List.mem_append.1 hx with hx | hx
      · have := mem_prs.1 hx; exact ⟨this.1, this.2.1⟩
      · obtain ⟨c, hc, e⟩ := List.mem_map.1 hx
        have := mem_prs.1 hc
        rw [← e]
        exact ⟨this.2.1, this.1⟩
    rw [List.mem_flatMap]
    exact ⟨x.1, List.mem_range.2 (by omega), List.mem_map.2 ⟨x.2, List.mem_range.2 (by omega), rfl⟩⟩
  have e : ((List.range 6).flatMap fun i => (List.range 6).map fun k => (i, k)).length = 36 := by decide
  rw [e, List.length_append, List.length_map] at this
  omega
theorem spBefore {M : Nat → Nat → Int} {x y : Nat × Nat} (h : lex y x) : F_spec_l06Before (duel M x) (duel M y) = some (dlt M x y) := by
  unfold F_spec_l06Before dlt duel
  simp only
  by_cases e1 : M x.1 x.2 = M y.1 y.2
  · rw [bne_f e1, cond_false, decide_eq_true e1]
    have f1 : decide (M x.1 x.2 > M y.1 y.2) = false := decide_eq_false (by omega)
    rw [f1, Bool.false_or, Bool.true_and]
    by_cases e2 : M x.2 x.1 = M y.2 y.1
    · rw [bne_f e2, cond_false]
      have f2 : decide (M x.2 x.1 < M y.2 y.1) = false := decide_eq_false (by omega)
      rw [f2]
      by_cases e3 : x.1 = y.1
      · rw [bne_f (by omega), cond_false, decide_eq_false (by rcases h with h | ⟨-, h⟩ <;> omega)]
      · rw [bne_t (by omega), cond_true, decide_eq_false (by rcases h with h | ⟨h, -⟩ <;> omega)]
    · rw [bne_t e2]
      rfl
  · rw [bne_t e1, cond_true, decide_eq_false e1, Bool.false_and, Bool.or_false]
theorem imCompare {M : Nat → Nat → Int} {B : Nat} (hB : Bd M B) (hb : B ≤ 1000000) (x y : Nat × Nat) : ∃ c, F_impl_Profile_duels_1 (duel M x) (duel M y) = some c ∧ decide (c < 0) = dlt M x y := by
  have b1 := hB x.1 x.2; have b2 := hB y.1 y.2
  have w1 : IntKind.i64.wrap (0 - M x.1 x.2) = - M x.1 x.2 := by rw [W_id (by omega) (by omega)]; omega
  have w2 : IntKind.i64.wrap (0 - M y.1 y.2) = - M y.1 y.2 := by rw [W_id (by omega) (by omega)]; omega
  have hcmp : ∀ a b : Int, F_cmp_Compare_int64 a b = some (if a < b then -1 else if a > b then 1 else 0) := fun a b => by
    unfold F_cmp_Compare_int64 F_cmp_isNaN_int64
    simp only [Option.bind_some, bne_self_eq_false, cond_false]
    by_cases q : a < b
    · rw [decide_eq_true q, if_pos q]; rfl
    · rw [decide_eq_false q, if_neg q, cond_false]
      by_cases q2 : a > b
      · rw [decide_eq_true q2, if_pos q2]; rfl
      · rw [decide_eq_false q2, if_neg q2]; rfl
  unfold F_impl_Profile_duels_1 F_slices_Compare_int64_int64 duel dlt
  simp only [w1, w2, List.length_cons, List.length_nil]
  have i0 : ∀ {β : Type} (a b : Int) (K : Int → Option β), idx [a, b] 0 K = K a := fun a b K => rfl
  have i1 : ∀ {β : Type} (a b : Int) (K : Int → Option β), idx [a, b] 1 K = K b := fun a b K => rfl
  have e01 : IntKind.i64.wrap (0 + 1) = 1 := by decide
  have e12 : IntKind.i64.wrap (1 + 1) = 2 := by decide
  rw [F_slices_Compare_int64_int64_l1.eq_2]
  simp only [List.length_cons, List.length_nil]
  rw [decide_eq_true (by omega), cond_true, i0, decide_eq_false (by omega), cond_false, i0, hcmp, Option.bind_some, e01]
  by_cases q1 : M x.1 x.2 > M y.1 y.2
  · rw [if_pos (by omega), decide_eq_true q1]
    exact ⟨-1, rfl, rfl⟩
  · rw [if_neg (by omega), decide_eq_false q1, Bool.false_or]
    by_cases q2 : M x.1 x.2 = M y.1 y.2
    · rw [if_neg (by omega), decide_eq_true q2, Bool.true_and]
      rw [show ((0 : Int) != 0) = false from rfl, cond_false, F_slices_Compare_int64_int64_l1.eq_2]
      simp only [List.length_cons, List.length_nil]
      rw [decide_eq_true (by omega), cond_true, i1, decide_eq_false (by omega), cond_false, i1, hcmp, Option.bind_some, e12]
      by_cases q3 : M x.2 x.1 < M y.2 y.1
      · rw [if_pos q3, decide_eq_true q3]
        exact ⟨-1, rfl, rfl⟩
      · rw [if_neg q3, decide_eq_false q3]
        by_cases q4 : M x.2 x.1 > M y.2 y.1
        · rw [if_pos q4]
          exact ⟨1, rfl, rfl⟩
        · rw [if_neg q4, show ((0 : Int) != 0) = false from rfl, cond_false, F_slices_Compare_int64_int64_l1.eq_2]
          simp only [List.length_cons, List.length_nil]
          rw [decide_eq_false (by omega), cond_false, decide_eq_false (by omega)]
          exact ⟨0, rfl, rfl⟩
    · rw [if_pos (by omega), decide_eq_false q2]
      exact ⟨1, rfl, rfl⟩
def duels (n : Nat) (M : Nat → Nat → Int) : List DDuel := ((sortB (dlt M) (prs n M)).reverse).map (duel M)
theorem imStable {M : Nat → Nat → Int} {B : Nat} (hB : Bd M B) (hb : B ≤ 1000000) {L : List (Nat × Nat)} (hl : L.length < 20) :
    F_slices_SortStableFunc_impl_Duel_impl_Duel__impl_Profile_duels_1 (L.map (duel M)) = some (((sortB (dlt M) L).reverse).map (duel M)) := by
  unfold F_slices_SortStableFunc_impl_Duel_impl_Duel__impl_Profile_duels_1 F_slices_stableCmpFunc_impl_Duel__impl_Profile_duels_1
  have hlen : (L.map (duel M)).length = L.length := List.length_map _
  let lt' : DDuel → DDuel → Bool := fun f g => decide (f.fFor > g.fFor) || (decide (f.fFor = g.fFor) && decide (f.fAgainst < g.fAgainst))
  have hins : F_slices_insertionSortCmpFunc_impl_Duel__impl_Profile_duels_1 (L.map (duel M)) 0 ((L.map (duel M)).length : Int) = some ((sortB lt' (L.map (duel M))).reverse) :=
    isort_whole (F := F_slices_insertionSortCmpFunc_impl_Duel__impl_Profile_duels_1_l2 0) (G := F_slices_insertionSortCmpFunc_impl_Duel__impl_Profile_duels_1_l1 ((L.map (duel M)).length : Int) 0)
      (cmp := fun u v => F_impl_Profile_duels_1 u v) (P := fun f => ∃ x, f = duel M x) (fun _ _ _ => rfl)
      (fun u v hu hv => by
        obtain ⟨x, rfl⟩ := hu
        obtain ⟨y, rfl⟩ := hv
        exact imCompare hB hb x y) (fun _ _ _ => rfl) (by rw [hlen]; omega) (fun y hy => by
        obtain ⟨x, -, rfl⟩ := List.mem_map.1 hy
        exact ⟨x, rfl⟩)
  have hs : sortB lt' (L.map (duel M)) = (sortB (dlt M) L).map (duel M) := sortB_map
  have l1 : F_slices_stableCmpFunc_impl_Duel__impl_Profile_duels_1_l1 ((L.map (duel M)).length : Int) (Int.toNat (((L.map (duel M)).length : Int) - 20) + 2) (L.map (duel M)) 0 20 = some (L.map (duel M), 0) := by
    rw [F_slices_stableCmpFunc_impl_Duel__impl_Profile_duels_1_l1.eq_2, decide_eq_false (by omega), cond_false]
  have l2 (x : List DDuel) : F_slices_stableCmpFunc_impl_Duel__impl_Profile_duels_1_l2 ((L.map (duel M)).length : Int) x (Int.toNat (((L.map (duel M)).length : Int) - 20) + 2) 20 = some x := by
    rw [F_slices_stableCmpFunc_impl_Duel__impl_Profile_duels_1_l2.eq_2, decide_eq_false (by omega), cond_false]
  rw [l1]
  simp only [Option.bind_some]
  rw [hins, Option.bind_some, l2, Option.bind_some, hs, List.map_reverse]
theorem imDuels {n : Nat} {R : List (List Nat)} {T : List Nat} (h : Prof n R T) : F_impl_Profile_duels (prof R T) = some (duels n (pairM R T)) := by
  have h6 := h.n6
  have hB := pair_bd h
  generalize hM : pairM R T = M at hB ⊢
  unfold F_impl_Profile_duels
  rw [imPairs h, Option.bind_some, imOptions h, Option.bind_some, hM]
  have hpb : ∀ i, ((prsI n M i).map (duel M)).length ≤ 6 := fun i => by
    rw [List.length_map]
    unfold prsI
    rw [List.length_flatMap]
    have := sum_bd (w := fun k => (if M i k > M k i then [(i, k)] else [] : List (Nat × Nat)).length) (b := 1) (l := List.range n) fun k _ => by split <;> simp
    rw [List.length_range] at this
    omega
  have h2 : ∀ i (acc : List DDuel), i < n → acc.length ≤ 100 → F_impl_Profile_duels_l2 (n : Int) (mat n M) (i : Int) (Int.toNat ((n : Int) - 0) + 2) acc 0 = some (acc ++ (prsI n M i).map (duel M)) := by
    intro i acc hi ha
    have := app_loop (b := 1) (n := n) (F := F_impl_Profile_duels_l2 (n : Int) (mat n M) (i : Int)) (m := Int.toNat ((n : Int) - 0) + 2) (acc := acc) (fun k => (if M i k > M k i then [(i, k)] else [] : List (Nat × Nat)).map (duel M)) some acc.length
      (fun k _ => by rw [List.length_map]; split <;> simp) (fun f acc => by rw [F_impl_Profile_duels_l2.eq_2, dlt_f (by omega)]; rfl)
      (fun f acc k hk hacc => by
        rw [F_impl_Profile_duels_l2.eq_2, dlt_t hk, cond_true, idx_mat hi, idx_tab hk, idx_mat hk, idx_tab hi, idx_mat hi, idx_tab hk, idx_mat hk, idx_tab hi, W_succ hk (by unfold maxLen; omega)]
        by_cases q : M i k > M k i
        · rw [decide_eq_true q, cond_true, if_pos q, app_ok (by simp; omega)]
          rfl
        · rw [decide_eq_false q, cond_false, if_neg q]
          simp) (by omega) (Nat.le_refl _)
    rw [this]
    congr 2
    unfold prsI
    rw [List.map_flatMap]
  have := app_loop (b := 6) (n := n) (F := F_impl_Profile_duels_l1 (n : Int) (prof R T) (mat n M)) (m := Int.toNat ((n : Int) - 0) + 2) (acc := []) (fun i => (prsI n M i).map (duel M)) (fun l => (F_slices_SortStableFunc_impl_Duel_impl_Duel__impl_Profile_duels_1 l).bind fun x180 => some x180) 0
    (fun i _ => hpb i) (fun f acc => by rw [F_impl_Profile_duels_l1.eq_2, dlt_f (by omega)]; rfl)
    (fun f acc i hi hacc => by rw [F_impl_Profile_duels_l1.eq_2, dlt_t hi, cond_true, imOptions h, Option.bind_some, h2 i acc hi (by omega), Option.bind_some, W_succ hi (by unfold maxLen; omega)]) (by omega) (by simp)
  have e : ((List.range n).flatMap fun i => (prsI n M i).map (duel M)) = (prs n M).map (duel M) := by unfold prs; rw [List.map_flatMap]
  rw [this, List.nil_append, e, imStable hB (by omega) (by have := prs_len h6 (M := M); omega), Option.bind_some]
  rfl
/-! the other side: each is laid in from behind -/
theorem spIns {M : Nat → Nat → Int} {x : Nat × Nat} : ∀ {ys : List (Nat × Nat)} {f : Nat}, (∀ y ∈ ys, lex y x) → ys.length < f → ys.length ≤ 100 → ∀ s : List (Nat × Nat), ∃ at_, at_ ≤ ys.length ∧
    F_spec_l06Duels_l3 ((ys.reverse ++ s).map (duel M)) (x.1 : Int) (x.2 : Int) (M x.1 x.2) (M x.2 x.1) f (ys.length : Int) = some ((at_ : Nat) : Int) ∧ (insR (dlt M) x ys).reverse = ys.reverse.take at_ ++ x :: ys.reverse.drop at_ := by
  intro ys
  induction ys with
  | nil =>
    intro f _ hf _ s
    obtain ⟨f, rfl⟩ : ∃ g, f = g + 1 := ⟨f - 1, by omega⟩
    exact ⟨0, Nat.le_refl _, by rw [F_spec_l06Duels_l3.eq_2]; rfl, rfl⟩
  | cons y ys ih =>
    intro f hy hf hl s
    obtain ⟨f, rfl⟩ : ∃ g, f = g + 1 := ⟨f - 1, by omega⟩
    simp only [List.length_cons] at hf hl
    have hw : IntKind.i64.wrap (((y :: ys).length : Int) - 1) = (ys.length : Int) := by rw [W_pred (by simp) (by simp; unfold maxLen; omega)]; rfl
    have hlen : ys.length < (((y :: ys).reverse ++ s).map (duel M)).length := by simp <;> omega
    have hget : (((y :: ys).reverse ++ s).map (duel M))[ys.length] = duel M y := by
      rw [List.getElem_map, List.getElem_append_left (by simp)]
      simp
    have hd : DDuel.mk (x.1 : Int) (x.2 : Int) (M x.1 x.2) (M x.2 x.1) = duel M x := rfl
    rw [F_spec_l06Duels_l3.eq_2, decide_eq_true (show (((y :: ys).length : Nat) : Int) > 0 by simp <;> omega), cond_true, hw, idx_nat hlen, hget, hd, spBefore (hy y (List.mem_cons_self ..)), Option.bind_some]
    unfold insR
    cases q : dlt M x y
    · refine ⟨ys.length + 1, by simp, by simp, ?_⟩
      rw [cond_false, List.take_of_length_le (by simp), List.drop_of_length_le (by simp)]
      simp
    · obtain ⟨a, h1, h2, h3⟩ := ih (f := f) (fun z hz => hy z (List.mem_cons_of_mem _ hz)) (by omega) (by omega) (y :: s)
      refine ⟨a, by simp; omega, ?_, ?_⟩
      · have e : (y :: ys).reverse ++ s = ys.reverse ++ y :: s := by simp
        rw [Option.bind_some, cond_true, e]
        exact h2
      · rw [cond_true, List.reverse_cons, List.reverse_cons, h3, List.take_append_of_le_length (by simp; omega), List.drop_append_of_le_length (by simp; omega), List.append_assoc, List.cons_append]
def dstep (M : Nat → Nat → Int) (i : Nat) (ys : List (Nat × Nat)) (k : Nat) : List (Nat × Nat) := if M i k > M k i then insR (dlt M) (i, k) ys else ys
theorem spDuels {n : Nat} (hn : n ≤ 6) {M : Nat → Nat → Int} : F_spec_l06Duels (mat n M) = some (duels n M) := by
  have h2 : ∀ i (ys : List (Nat × Nat)), i < n → ys.length ≤ 50 → (∀ y ∈ ys, y.1 < i) → F_spec_l06Duels_l2 (mat n M) (i : Int) (n + 1) (ys.reverse.map (duel M)) 0 = some (((List.range n).foldl (dstep M i) ys).reverse.map (duel M)) := by
    intro i ys hi hl hys
    exact fold_range (n := n) (F := fun f (ys : List (Nat × Nat)) k => F_spec_l06Duels_l2 (mat n M) (i : Int) f (ys.reverse.map (duel M)) k) (dstep M i) (fun ys => some (ys.reverse.map (duel M))) (fun k ys => ys.length ≤ 50 + k ∧ ∀ y ∈ ys, lex y (i, k)) (fun f s _ => by
      show F_spec_l06Duels_l2 _ _ _ _ _ = _
      rw [F_spec_l06Duels_l2.eq_2, mat_len, dlt_f (by omega)]; rfl) (fun f s k hk hs => by
      show F_spec_l06Duels_l2 _ _ _ _ _ = F_spec_l06Duels_l2 _ _ _ _ _
      rw [F_spec_l06Duels_l2.eq_2, mat_len, dlt_t hk, cond_true, idx_mat hi, idx_tab hk, idx_mat hk, idx_tab hi, W_succ hk (by unfold maxLen; omega)]
      unfold dstep
      by_cases q : M i k > M k i
      · obtain ⟨a, h1, h3, h4⟩ := spIns (M := M) (x := (i, k)) (ys := s) (f := 1000) hs.2 (by omega) (by omega) []
        rw [List.append_nil] at h3
        have hsl : (s.reverse.map (duel M)).length = s.length := by simp
        have hd : DDuel.mk (i : Int) (k : Int) (M i k) (M k i) = duel M (i, k) := rfl
        rw [decide_eq_false (by omega), cond_false, idx_mat hi, idx_tab hk, idx_mat hk, idx_tab hi, if_pos q]
        simp only [Option.bind_some]
        rw [hsl, h3, Option.bind_some, sub_ok0 (by omega), app_ok (by simp; omega), app_ok (by simp; omega), ← hsl, sub_ok (by omega) (Nat.le_refl _), app_ok (by simp; omega), Option.bind_some, h4]
        congr 1
        rw [List.nil_append, Int.toNat_natCast, Int.toNat_natCast, List.take_length, Int.toNat_zero, List.drop_zero, hd, List.map_append, List.map_cons, List.map_take, List.map_drop, List.append_assoc]
        rfl
      · rw [decide_eq_true (by omega), cond_true, if_neg q, Option.bind_some]) (fun s k hk hs => by
      unfold dstep
      split
      · refine ⟨by rw [insR_len]; omega, fun y hy => ?_⟩
        rcases insR_mem.1 hy with rfl | hy
        · exact .inr ⟨rfl, by simp⟩
        · rcases hs.2 y hy with h | ⟨h, h'⟩
          · exact .inl h
          · exact .inr ⟨h, by simp only at h' ⊢; omega⟩
      · refine ⟨by omega, fun y hy => ?_⟩
        rcases hs.2 y hy with h | ⟨h, h'⟩
        · exact .inl h
        · exact .inr ⟨h, by simp only at h' ⊢; omega⟩) (m := n + 1) (s := ys) (by omega) ⟨by omega, fun y hy => .inl (hys y hy)⟩
  have hstep : ∀ i ys, (List.range n).foldl (dstep M i) ys = (prsI n M i).foldl (fun acc x => insR (dlt M) x acc) ys := by
    intro i ys
    unfold prsI
    rw [List.foldl_flatMap]
    congr 1
    funext ys k
    unfold dstep
    split <;> rfl
  have hlen : ∀ i ys, ((prsI n M i).foldl (fun acc x => insR (dlt M) x acc) ys).length = ys.length + (prsI n M i).length := by
    intro i ys
    generalize prsI n M i = l
    induction l generalizing ys with
    | nil => simp
    | cons x l ih => rw [List.foldl_cons, ih, insR_len, List.length_cons]; omega
  have hmem : ∀ i ys y, y ∈ (prsI n M i).foldl (fun acc x => insR (dlt M) x acc) ys ↔ y ∈ ys ∨ y ∈ prsI n M i := by
    intro i ys y
    generalize prsI n M i = l
    induction l generalizing ys with
    | nil => simp
    | cons x l ih =>
      rw [List.foldl_cons, ih, insR_mem, List.mem_cons]
      constructor
      · rintro ((h | h) | h) <;> simp [h]
      · rintro (h | h | h) <;> simp [h]
  have hpl : ∀ i, (prsI n M i).length ≤ 6 := fun i => by
    unfold prsI
    rw [List.length_flatMap]
    have := sum_bd (w := fun k => (if M i k > M k i then [(i, k)] else [] : List (Nat × Nat)).length) (b := 1) (l := List.range n) fun k _ => by split <;> simp
    rw [List.length_range] at this
    omega
  unfold F_spec_l06Duels
  rw [mat_len]
  have := fold_range (n := n) (F := fun f (ys : List (Nat × Nat)) i => F_spec_l06Duels_l1 (mat n M) f (ys.reverse.map (duel M)) i) (fun ys i => (List.range n).foldl (dstep M i) ys) (fun ys => some (ys.reverse.map (duel M))) (fun i ys => ys.length ≤ 6 * i ∧ ∀ y ∈ ys, y.1 < i) (fun f s _ => by
    show F_spec_l06Duels_l1 _ _ _ _ = _
    rw [F_spec_l06Duels_l1.eq_2, mat_len, dlt_f (by omega)]; rfl) (fun f s i hi hs => by
    show F_spec_l06Duels_l1 _ _ _ _ = F_spec_l06Duels_l1 _ _ _ _
    rw [F_spec_l06Duels_l1.eq_2, mat_len, dlt_t hi, cond_true, h2 i s hi (by omega) hs.2, Option.bind_some, W_succ hi (by unfold maxLen; omega)]) (fun s i hi hs => by
    simp only [hstep]
    refine ⟨by rw [hlen]; have := hpl i; omega, fun y hy => ?_⟩
    rcases (hmem i s y).1 hy with h | h
    · have := hs.2 y h; omega
    · rw [(mem_prsI.1 h).1]; omega) (m := n + 1) (s := []) (by omega) ⟨by simp, by simp⟩
  refine this.trans ?_
  unfold duels sortB prs
  simp only [hstep]
  rw [List.foldl_flatMap]
theorem duels_len {n : Nat} (hn : n ≤ 6) {M : Nat → Nat → Int} : (duels n M).length ≤ 18 := by
  unfold duels
  rw [List.length_map, List.length_reverse, sortB_perm.length_eq]
  exact prs_len hn
end Go.FX
