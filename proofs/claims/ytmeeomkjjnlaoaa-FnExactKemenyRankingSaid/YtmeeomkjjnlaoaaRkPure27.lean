/- The pure part: what the functions compute, in plain Lean, with no program in sight; no condition. -/
import Derived.Test.YtmeeomkjjnlaoaaRkPure6
namespace Go.FX
open Go Go.GL Go.RowKit
theorem imContains (l : List Int) (x : Int) (hl : l.length ≤ maxLen) : F_slices_Contains_int64_int64 l x = some (l.contains x) := by
  have h : F_slices_Index_int64_int64 l x = some (fidx (fun y => x == y) l) :=
    idxf_loop (F := F_slices_Index_int64_int64_l1 l x) (P := fun y => some (x == y)) _ (fun _ _ => rfl) hl (fun _ _ => rfl)
  unfold F_slices_Contains_int64_int64
  rw [h, Option.bind_some, fidx_ge, any_beq]
theorem imCloneK (l : List Int) (hl : l.length ≤ 1048576) : F_slices_Clone_int64_int64 l = some l := by
  unfold F_slices_Clone_int64_int64
  rw [app_ok (by simp; omega)]
  rfl
/-! all rankings, in order -/
def kg (n : Nat) : Nat → List Nat → List (List Nat)
  | 0, b => [b]
  | d + 1, b => (List.range n).flatMap fun o => if b.contains o = true then [] else kg n d (b ++ [o])
def stp (M : Nat → Nat → Int) (r : List Int × Int) (L : List Nat) : List Int × Int := if (r.1.isEmpty || decide (disA M L 0 < r.2)) = true then (L.map Int.ofNat, disA M L 0) else r
def stq (M : Nat → Nat → Int) (r : List Int × Int) (L : List Nat) : List Int × Int := if disA M L 0 < r.2 then (L.map Int.ofNat, disA M L 0) else r
theorem cont_nat (b : List Nat) (o : Nat) : (b.map Int.ofNat).contains (o : Int) = b.contains o := by
  induction b with
  | nil => rfl
  | cons a l ih =>
    rw [List.map_cons, List.contains_cons, List.contains_cons, ih]
    congr 1
    rw [Bool.eq_iff_iff, beq_iff_eq, beq_iff_eq]
    exact Int.ofNat_inj
theorem imK {n : Nat} {R : List (List Nat)} {T : List Nat} (hp : Prof n R T) (M : Nat → Nat → Int) : ∀ (d f : Nat) (b : List Nat), b.length + d = n → d < f → (∀ x ∈ b, x < n) → ∀ r : List Int × Int,
    F_impl_KemenyRanking_1 f (b.map Int.ofNat) (prof R T) (mat n M) r.1 r.2 = some ((kg n d b).foldl (stp M) r) := by
  have h6 := hp.n6
  have h1 := hp.n1
  intro d
  induction d with
  | zero =>
    intro f b hb hf hlt r
    obtain ⟨f, rfl⟩ : ∃ g, f = g + 1 := ⟨f - 1, by omega⟩
    have hq : ((List.length (b.map Int.ofNat) : Int) == (n : Int)) = true := by rw [beq_iff_eq, List.length_map]; omega
    rw [F_impl_KemenyRanking_1.eq_2, imOptions hp, Option.bind_some, hq, cond_true, imDisag hlt (by omega), Option.bind_some, kg, List.foldl_cons, List.foldl_nil, stp]
    cases hc : (r.1.isEmpty || decide (disA M b 0 < r.2)) with
    | true =>
      rw [if_pos rfl, cond_true, imCloneK _ (by rw [List.length_map]; omega), Option.bind_some, grd_eq (by cases b with
        | nil => simp at hb; omega
        | cons a l => rfl)]
      rfl
    | false =>
      rw [if_neg (by decide), cond_false]
      rfl
  | succ d ih =>
    intro f b hb hf hlt r
    obtain ⟨f, rfl⟩ : ∃ g, f = g + 1 := ⟨f - 1, by omega⟩
    have hq : ((List.length (b.map Int.ofNat) : Int) == (n : Int)) = false := by rw [beq_eq_false_iff_ne, List.length_map]; omega
    rw [F_impl_KemenyRanking_1.eq_2, imOptions hp, Option.bind_some, hq, cond_false, Option.bind_some, kg]
    have key : ∀ k o f2, o + k = n → k < f2 → ∀ r : List Int × Int, F_impl_KemenyRanking_1_l1 (n : Int) (b.map Int.ofNat) (F_impl_KemenyRanking_1 f) (prof R T) (mat n M) f2 (o : Int) r.1 r.2 =
        some ((((List.range n).drop o).flatMap fun o => if b.contains o = true then [] else kg n d (b ++ [o])).foldl (stp M) r) := by
      refine up (P := fun o f2 => ∀ r : List Int × Int, F_impl_KemenyRanking_1_l1 (n : Int) (b.map Int.ofNat) (F_impl_KemenyRanking_1 f) (prof R T) (mat n M) f2 (o : Int) r.1 r.2 =
        some ((((List.range n).drop o).flatMap fun o => if b.contains o = true then [] else kg n d (b ++ [o])).foldl (stp M) r)) (fun f2 r => ?_) (fun o f2 ho ih2 r => ?_)
      · rw [F_impl_KemenyRanking_1_l1.eq_2, dlt_f (by omega), List.drop_of_length_le (by rw [List.length_range]; exact Nat.le_refl _)]; rfl
      · have hd : (List.range n).drop o = o :: (List.range n).drop (o + 1) := by
          rw [List.drop_eq_getElem_cons (by rw [List.length_range]; exact ho), List.getElem_range]
        rw [F_impl_KemenyRanking_1_l1.eq_2, dlt_t ho, cond_true, imContains _ _ (by rw [List.length_map]; unfold maxLen; omega), Option.bind_some, cont_nat, hd, List.flatMap_cons, List.foldl_append, W_succ ho (by unfold maxLen; omega)]
        cases hc : b.contains o with
        | true => rw [Bool.not_true, cond_false, ih2, if_pos rfl, List.foldl_nil]
        | false =>
          rw [Bool.not_false, cond_true, imCloneK _ (by rw [List.length_map]; omega), Option.bind_some, app_ok (by simp; omega), if_neg (by decide)]
          have e : b.map Int.ofNat ++ [(o : Int)] = (b ++ [o]).map Int.ofNat := by rw [List.map_append]; rfl
          rw [e, ih f (b ++ [o]) (by rw [List.length_append, List.length_singleton]; omega) (by omega) (fun x hx => by
            rcases List.mem_append.1 hx with h | h
            · exact hlt x h
            · rw [List.mem_singleton.1 h]; exact ho), Option.bind_some, Option.bind_some]
          exact ih2 _
    have := key n 0 (Int.toNat ((n : Int) - 0) + 2) (by omega) (by omega) r
    rw [List.drop_zero] at this
    exact this
def nextK : List (List Nat) → Bool
  | [] => true
  | [x] => decide (F_spec_l06Next (x.map Int.ofNat) = some ([], false))
  | x :: y :: l => decide (F_spec_l06Next (x.map Int.ofNat) = some (y.map Int.ofNat, true)) && nextK (y :: l)
def chkK (n : Nat) : Bool := nextK (kg n n []) && (decide ((kg n n []).head? = some (List.range n)) && (decide (F_spec_l04First (n : Int) = some ((List.range n).map Int.ofNat)) && (decide ((kg n n []).length ≤ 720) && (kg n n []).all fun L => L.length == n && L.all fun x => decide (x < n))))
theorem chkK_all : ∀ k : Fin 6, chkK (k.val + 1) = true := by decide +kernel
theorem chkK_at {n : Nat} (h1 : 1 ≤ n) (h6 : n ≤ 6) : ∃ l, kg n n [] = List.range n :: l ∧ nextK (List.range n :: l) = true ∧ F_spec_l04First (n : Int) = some ((List.range n).map Int.ofNat) ∧ l.length < 720 ∧ ∀ L ∈ List.range n :: l, L.length = n ∧ ∀ x ∈ L, x < n := by
  have h := chkK_all ⟨n - 1, by omega⟩
  have e : n - 1 + 1 = n := by omega
  simp only [e] at h
  unfold chkK at h
  rw [Bool.and_eq_true, Bool.and_eq_true, Bool.and_eq_true, Bool.and_eq_true, decide_eq_true_eq, decide_eq_true_eq, decide_eq_true_eq, List.all_eq_true] at h
  obtain ⟨a, b, c, d, e⟩ := h
  cases hk : kg n n [] with
  | nil => rw [hk] at b; cases b
  | cons x l =>
    rw [hk] at a b d e
    obtain rfl : x = List.range n := Option.some.inj b
    refine ⟨l, rfl, a, c, by rw [List.length_cons] at d; omega, fun L hL => ?_⟩
    have := e L hL
    rw [Bool.and_eq_true, beq_iff_eq, List.all_eq_true] at this
    exact ⟨this.1, fun x hx => of_decide_eq_true (this.2 x hx)⟩
theorem spK {n : Nat} (M : Nat → Nat → Int) (h6 : n ≤ 6) : ∀ (l : List (List Nat)) (x : List Nat) (f : Nat) (r : List Int × Int), nextK (x :: l) = true → (∀ L ∈ x :: l, L.length = n ∧ ∀ z ∈ L, z < n) → l.length + 1 < f →
    F_spec_KemenyRanking_l1 (mat n M) f (x.map Int.ofNat) r.1 r.2 true = some (((x :: l).foldl (stq M) r).1, ((x :: l).foldl (stq M) r).2, true) := by
  intro l
  induction l with
  | nil =>
    intro x f r hn hL hf
    obtain ⟨f, rfl⟩ : ∃ g, f = g + 2 := ⟨f - 2, by simp at hf; omega⟩
    have hx := hL x (by simp)
    unfold nextK at hn
    rw [decide_eq_true_eq] at hn
    rw [F_spec_KemenyRanking_l1.eq_2, cond_true, spDisag hx.2 (by omega), Option.bind_some, hn, Option.bind_some, Option.bind_some, List.foldl_cons, List.foldl_nil, stq, F_spec_KemenyRanking_l1.eq_2, F_spec_KemenyRanking_l1.eq_2, cond_false]
    by_cases hd : disA M x 0 < r.2
    · rw [decide_eq_true hd, if_pos hd, cond_true]
    · rw [decide_eq_false hd, if_neg hd, cond_false]
      rfl
  | cons y l ih =>
    intro x f r hn hL hf
    obtain ⟨f, rfl⟩ : ∃ g, f = g + 1 := ⟨f - 1, by omega⟩
    have hx := hL x (by simp)
    unfold nextK at hn
    rw [Bool.and_eq_true, decide_eq_true_eq] at hn
    have h2 : ∀ r : List Int × Int, F_spec_KemenyRanking_l1 (mat n M) f (y.map Int.ofNat) r.1 r.2 true = some (((y :: l).foldl (stq M) r).1, ((y :: l).foldl (stq M) r).2, true) := fun r => ih y f r hn.2 (fun L h => hL L (List.mem_cons_of_mem _ h)) (by rw [List.length_cons] at hf; omega)
    rw [F_spec_KemenyRanking_l1.eq_2, cond_true, spDisag hx.2 (by omega), Option.bind_some, hn.1, Option.bind_some, Option.bind_some, List.foldl_cons, stq]
    by_cases hd : disA M x 0 < r.2
    · rw [decide_eq_true hd, if_pos hd, cond_true]
      exact h2 (x.map Int.ofNat, disA M x 0)
    · rw [decide_eq_false hd, if_neg hd, cond_false]
      exact h2 r
theorem fold_pq (M : Nat → Nat → Int) : ∀ (l : List (List Nat)) (r : List Int × Int), r.1.isEmpty = false → (∀ L ∈ l, L ≠ []) → l.foldl (stp M) r = l.foldl (stq M) r ∧ ((l.foldl (stq M) r).1.length ≤ 6 ∨ (∃ L ∈ l, 6 < L.length) ∨ 6 < r.1.length) := by
  intro l
  induction l with
  | nil => intro r _ _; exact ⟨rfl, by by_cases h : r.1.length ≤ 6; exact .inl h; exact .inr (.inr (by omega))⟩
  | cons x l ih =>
    intro r hr hL
    have hx := hL x (by simp)
    have e : stp M r x = stq M r x := by unfold stp stq; rw [hr, Bool.false_or]; by_cases hd : disA M x 0 < r.2 <;> simp [hd]
    rw [List.foldl_cons, List.foldl_cons, e]
    have hne : (stq M r x).1.isEmpty = false := by
      unfold stq
      split
      · cases x with
        | nil => exact absurd rfl hx
        | cons => rfl
      · exact hr
    obtain ⟨h1, h2⟩ := ih (stq M r x) hne (fun L h => hL L (List.mem_cons_of_mem _ h))
    refine ⟨h1, ?_⟩
    rcases h2 with h2 | ⟨L, h2, h3⟩ | h2
    · exact .inl h2
    · exact .inr (.inl ⟨L, List.mem_cons_of_mem _ h2, h3⟩)
    · unfold stq at h2
      split at h2
      · rw [List.length_map] at h2; exact .inr (.inl ⟨x, by simp, h2⟩)
      · exact .inr (.inr h2)
theorem eqKemeny (p : DProfile) (h : smP p) : ∃ r, F_spec_KemenyRanking p = some r ∧ F_impl_KemenyRanking p = some r ∧ r.1.length ≤ 1048576 := by
  unfold F_spec_KemenyRanking F_impl_KemenyRanking
  rw [spProfile p h, imProfile p h]
  simp only [Option.bind_some]
  cases q : profOk p
  · exact ⟨_, rfl, rfl, by simp⟩
  · obtain ⟨n, R, T, rfl, hp, -⟩ := prof_nat q
    have h6 := hp.n6; have h1 := hp.n1
    obtain ⟨l, hk, hn, hf, hl, hL⟩ := chkK_at h1 h6
    have h0 := hL (List.range n) (by simp)
    simp only [Bool.not_true, cond_false]
    rw [spPairs hp, imPairs hp, Option.bind_some, Option.bind_some, spCount (by rw [prof_len]; exact hp.r1), cnt_prof hp, Option.bind_some, hf, Option.bind_some, spDisag h0.2 (by omega), Option.bind_some]
    have hs := spK (pairM R T) h6 l (List.range n) 1000 ((List.range n).map Int.ofNat, disA (pairM R T) (List.range n) 0) hn hL (by omega)
    have hi := imK hp (pairM R T) n 10 [] (by simp) (by omega) (fun x hx => by cases hx) ([], 0)
    rw [hk, List.foldl_cons] at hi
    rw [List.foldl_cons] at hs
    have e1 : stp (pairM R T) ([], 0) (List.range n) = ((List.range n).map Int.ofNat, disA (pairM R T) (List.range n) 0) := rfl
    have e2 : stq (pairM R T) ((List.range n).map Int.ofNat, disA (pairM R T) (List.range n) 0) (List.range n) = ((List.range n).map Int.ofNat, disA (pairM R T) (List.range n) 0) := by
      unfold stq
      rw [if_neg (by show ¬ disA (pairM R T) (List.range n) 0 < disA (pairM R T) (List.range n) 0; omega)]
    rw [e1] at hi
    rw [e2] at hs
    obtain ⟨h3, h4⟩ := fold_pq (pairM R T) l ((List.range n).map Int.ofNat, disA (pairM R T) (List.range n) 0) (by cases n with
      | zero => omega
      | succ n => rw [List.range_succ]; simp) (fun L hm e => by
        have := (hL L (List.mem_cons_of_mem _ hm)).1
        rw [e] at this
        simp at this
        omega)
    rw [h3] at hi
    have hi' : F_impl_KemenyRanking_1 10 [] (prof R T) (mat n (pairM R T)) [] 0 = _ := hi
    rw [hs, hi']
    refine ⟨_, rfl, rfl, ?_⟩
    rcases h4 with h4 | ⟨L, h4, h5⟩ | h4
    · exact Nat.le_trans h4 (by decide)
    · have := (hL L (List.mem_cons_of_mem _ h4)).1
      omega
    · simp at h4
      omega
end Go.FX
