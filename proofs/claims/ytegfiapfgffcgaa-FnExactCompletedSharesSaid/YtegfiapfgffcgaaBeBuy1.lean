/- The pure part: what the functions compute, in plain Lean, with no program in sight; no condition. -/
import Derived.Test.YtegfiapfgffcgaaBePrice2
namespace Go.FX
open Go Go.GL Go.RowKit
theorem prc_spec {D : Nat} : ∀ {S : List Int} {left x : Int} {m : Nat}, prc D left S = some (x, m) → 0 ≤ left → (∀ y ∈ S, 0 ≤ y) → 0 ≤ x ∧ x ≤ left ∧ 1 ≤ m ∧ m ≤ S.length := by
  intro S
  induction S with
  | nil => intro left x m e; cases e
  | cons y S ih =>
    intro left x m e h0 hS
    unfold prc at e
    have hy := hS y (List.mem_cons_self ..)
    by_cases q : left ≤ y * ((S.length + 1 : Nat) : Int)
    · rw [if_pos q] at e
      cases e
      exact ⟨h0, Int.le_refl _, by omega, by simp⟩
    · rw [if_neg q] at e
      have h1 : y * 1 ≤ y * ((S.length + 1 : Nat) : Int) := Int.mul_le_mul_of_nonneg_left (by omega) hy
      obtain ⟨a, b, c, d⟩ := ih e (by omega) fun z hz => hS z (List.mem_cons_of_mem _ hz)
      exact ⟨a, by omega, c, by simp; omega⟩
def payI (A : List (Nat → Bool)) (X : List Int) (p : Nat) (x : Int) (k : Nat) (i : Nat) : Int := if likes A p i = true then (if X[i]! * k < x then X[i]! * k else x) else 0
def payN (A : List (Nat → Bool)) (X : List Int) (p : Nat) (x : Int) (k : Nat) : List Int := tab A.length (payI A X p x k)
def newN (A : List (Nat → Bool)) (X : List Int) (p : Nat) (x : Int) (k : Nat) : List Int := tab A.length fun i => X[i]! * k - payI A X p x k i
theorem payN_len {A : List (Nat → Bool)} {X : List Int} {p : Nat} {x : Int} {k : Nat} : (payN A X p x k).length = A.length := tab_len
theorem newN_len {A : List (Nat → Bool)} {X : List Int} {p : Nat} {x : Int} {k : Nat} : (newN A X p x k).length = A.length := tab_len
theorem frs_tab {D n : Nat} {g : Nat → Int} : frs D (tab n g) = tab n fun i => fr (g i) D := by unfold frs tab; rw [List.map_map]; rfl
theorem frs_eq {D : Nat} {X : List Int} : frs D X = tab X.length fun i => fr (X[i]!) D := by
  have := frs_tab (D := D) (n := X.length) (g := fun i => X[i]!)
  rw [← this]
  congr 1
  exact eq_tab X
theorem atX {X : List Int} {i : Nat} (h : i < X.length) : X[i]! ∈ X := by rw [getElem!_pos X i h]; exact List.getElem_mem _
theorem pay_b {A : List (Nat → Bool)} {X : List Int} {p : Nat} {x : Int} {k i : Nat} (h : 0 ≤ X[i]!) (hx : 0 ≤ x) : 0 ≤ payI A X p x k i ∧ payI A X p x k i ≤ X[i]! * k := by
  have : 0 ≤ X[i]! * (k : Int) := Int.mul_nonneg h (by omega)
  unfold payI
  split
  · split <;> omega
  · omega
theorem Pur.new {D : Nat} {A : List (Nat → Bool)} {X : List Int} {p : Nat} {x : Int} {k : Nat} (h : Pur D X) (hX : X.length = A.length) (hx : 0 ≤ x) (hk : 1 ≤ k) (hD : D * k ≤ 279936) : Pur (D * k) (newN A X p x k) := by
  refine ⟨Nat.mul_pos h.d0 hk, hD, fun y hy => ?_, fun y hy => ?_⟩
  · obtain ⟨i, hi, rfl⟩ := List.mem_map.1 hy
    have hi := List.mem_range.1 hi
    have := pay_b (A := A) (X := X) (p := p) (k := k) (i := i) (h.nn _ (atX (by omega))) hx
    omega
  · obtain ⟨i, hi, rfl⟩ := List.mem_map.1 hy
    have hi := List.mem_range.1 hi
    have h1 := h.up _ (atX (X := X) (i := i) (by omega))
    have := pay_b (A := A) (X := X) (p := p) (k := k) (i := i) (h.nn _ (atX (by omega))) hx
    have h2 : X[i]! * (k : Int) ≤ 360 * D * k := Int.mul_le_mul_of_nonneg_right h1 (by omega)
    rw [Int.natCast_mul, ← Int.mul_assoc]
    omega
theorem fr_zero {D : Nat} (h : 0 < D) : (⟨0, 1⟩ : DFraction) = fr 0 D := by
  have := whole_fr (n := 0) h
  rwa [Int.zero_mul] at this
/-- what is small in a purchase -/
theorem buy_sm {D : Nat} {A : List (Nat → Bool)} {X : List Int} {p : Nat} {x : Int} {k : Nat} (h : Pur D X) (hX : X.length = A.length) (hx : 0 ≤ x) (hx2 : x ≤ 60 * D) (hk : 1 ≤ k) (hD : D * k ≤ 279936) {i : Nat} (hi : i < A.length) :
    Sm (fr X[i]! D) ∧ Sm (fr x (D * k)) ∧ Sm (fr (payI A X p x k i) (D * k)) ∧ Sm (fr (X[i]! * k - payI A X p x k i) (D * k)) := by
  have hd := h.dB
  have h1 := h.up _ (atX (X := X) (i := i) (by omega))
  have h0 := h.nn _ (atX (X := X) (i := i) (by omega))
  have hb := pay_b (A := A) (X := X) (p := p) (k := k) (i := i) h0 hx
  have h2 : X[i]! * (k : Int) ≤ 360 * D * k := Int.mul_le_mul_of_nonneg_right h1 (by omega)
  have h3 : (360 : Int) * D * k = 360 * ((D * k : Nat) : Int) := by rw [Int.natCast_mul, Int.mul_assoc]
  have h4 : 0 < D * k := Nat.mul_pos h.d0 hk
  exact ⟨fr_sm h.d0 (by omega) (by omega), fr_sm h4 (by omega) (by omega), fr_sm h4 (by omega) (by omega), fr_sm h4 (by omega) (by omega)⟩
section
variable {m : Nat} {C : List Nat} {A : List (Nat → Bool)} (h : Elec m C A)
include h
theorem spPay {D : Nat} {X : List Int} {p : Nat} {x : Int} {k : Nat} (hX : Pur D X) (hl : X.length = A.length) (hp : p < C.length) (hx : 0 ≤ x) (hx2 : x ≤ 60 * D) (hk : 1 ≤ k) (hD : D * k ≤ 279936) :
    F_spec_l05Pay (ele m C A) (frs D X) (p : Int) (fr x (D * k)) = some (frs (D * k) (payN A X p x k)) := by
  have ha := h.a6
  unfold F_spec_l05Pay
  rw [frs_len, hl]
  have := app_loop (b := 1) (n := A.length) (F := F_spec_l05Pay_l1 (frs D X) (ele m C A) (p : Int) (fr x (D * k))) (m := A.length + 1) (acc := []) (fun i => [fr (payI A X p x k i) (D * k)]) some 0
    (fun j _ => by simp) (fun f acc => by rw [F_spec_l05Pay_l1.eq_2, frs_len, hl, dlt_f (by omega)]; rfl)
    (fun f acc i hi hacc => by
      obtain ⟨s1, s2, -, -⟩ := buy_sm (p := p) hX hl hx hx2 hk hD hi
      have hiX : i < X.length := by omega
      have e : X[i]! = X[i] := getElem!_pos X i hiX
      have e1 : fr X[i] D = fr (X[i] * k) (D * k) := (fr_scale hX.d0 hk).symm
      rw [F_spec_l05Pay_l1.eq_2, frs_len, hl, dlt_t hi, cond_true, idx_A hi, spHas _ _ (small_lst h), Option.bind_some, lst_contains, decide_eq_true hp, Bool.true_and, W_succ (n := A.length) hi (by unfold maxLen; omega), ← likes_at hi]
      unfold payI
      by_cases q : likes A p i = true
      · rw [q, cond_true, if_pos rfl, idx_frs hiX, spCmp (e ▸ s1) s2, Option.bind_some, e1, cmp_fr (Nat.mul_pos hX.d0 hk), icmp_lt, e]
        by_cases q2 : X[i] * (k : Int) < x
        · rw [decide_eq_true q2, cond_true, if_pos q2, idx_frs hiX, app_ok (by simp; omega), e1]
        · rw [decide_eq_false q2, cond_false, if_neg q2, app_ok (by simp; omega)]
      · rw [Bool.eq_false_iff.2 q, cond_false, if_neg (by decide), app_ok (by simp; omega), fr_zero (Nat.mul_pos hX.d0 hk)]) (by omega) (by simp)
  rw [this, List.nil_append]
  unfold payN
  rw [frs_tab]
  congr 1
  exact (List.map_eq_flatMap ..).symm
theorem imPaid {D : Nat} {X : List Int} {p : Nat} {x : Int} {k : Nat} (hX : Pur D X) (hl : X.length = A.length) (hp : p < C.length) (hx : 0 ≤ x) (hx2 : x ≤ 60 * D) (hk : 1 ≤ k) (hD : D * k ≤ 279936) :
    F_impl_Election_paid (ele m C A) (p : Int) (fr x (D * k)) (frs D X) = some (frs (D * k) (payN A X p x k)) := by
  have ha := h.a6
  unfold F_impl_Election_paid
  rw [frs_len, hl]
  have := app_loop (b := 1) (n := A.length) (F := F_impl_Election_paid_l1 (frs D X) (ele m C A) (p : Int) (fr x (D * k))) (m := A.length + 1) (acc := []) (fun i => [fr (payI A X p x k i) (D * k)]) some 0
    (fun j _ => by simp) (fun f acc => by rw [F_impl_Election_paid_l1.eq_2, frs_len, hl, dlt_f (by omega)]; rfl)
    (fun f acc i hi hacc => by
      obtain ⟨s1, s2, -, -⟩ := buy_sm (p := p) hX hl hx hx2 hk hD hi
      have hiX : i < X.length := by omega
      have e : X[i]! = X[i] := getElem!_pos X i hiX
      have e1 : fr X[i] D = fr (X[i] * k) (D * k) := (fr_scale hX.d0 hk).symm
      rw [F_impl_Election_paid_l1.eq_2, frs_len, hl, dlt_t hi, cond_true, idx_A hi, imContains _ _ (small_lst h), Option.bind_some, lst_contains, decide_eq_true hp, Bool.true_and, W_succ (n := A.length) hi (by unfold maxLen; omega), ← likes_at hi]
      unfold payI
      by_cases q : likes A p i = true
      · rw [q, cond_true, if_pos rfl, idx_frs hiX]
        unfold F_impl_lesser
        rw [imCmp s2 (e ▸ s1), Option.bind_some, e1, cmp_fr (Nat.mul_pos hX.d0 hk), icmp_le, e]
        by_cases q2 : X[i] * (k : Int) < x
        · rw [decide_eq_false (by omega), cond_false, if_pos q2, Option.bind_some, app_ok (by simp; omega)]
        · rw [decide_eq_true (by omega), cond_true, if_neg q2, Option.bind_some, app_ok (by simp; omega)]
      · rw [Bool.eq_false_iff.2 q, cond_false, if_neg (by decide)]
        simp only [F_impl_whole, Option.bind_some]
        rw [app_ok (by simp; omega), fr_zero (Nat.mul_pos hX.d0 hk)]) (by omega) (by simp)
  rw [this, List.nil_append]
  unfold payN
  rw [frs_tab]
  congr 1
  exact (List.map_eq_flatMap ..).symm
def mix (A : List (Nat → Bool)) (D : Nat) (X : List Int) (p : Nat) (x : Int) (k : Nat) (i : Nat) : List DFraction :=
  tab A.length fun j => if j < i then fr (X[j]! * k - payI A X p x k j) (D * k) else fr X[j]! D
omit h in
theorem mix0 {D : Nat} {X : List Int} {p : Nat} {x : Int} {k : Nat} (hl : X.length = A.length) : frs D X = mix A D X p x k 0 := by
  rw [frs_eq, hl]
  exact tab_congr fun i _ => by rw [if_neg (by omega)]
omit h in
theorem mixn {D : Nat} {X : List Int} {p : Nat} {x : Int} {k : Nat} : mix A D X p x k A.length = frs (D * k) (newN A X p x k) := by
  unfold newN
  rw [frs_tab]
  exact tab_congr fun i hi => by rw [if_pos hi]
omit h in
theorem mixs {D : Nat} {X : List Int} {p : Nat} {x : Int} {k i : Nat} : (mix A D X p x k i).set i (fr (X[i]! * k - payI A X p x k i) (D * k)) = mix A D X p x k (i + 1) := by
  unfold mix
  rw [set_tab]
  exact tab_congr fun j _ => by
    by_cases e : j = i
    · rw [if_pos e, if_pos (by omega), e]
    · rw [if_neg e]
      by_cases e2 : j < i
      · rw [if_pos e2, if_pos (by omega)]
      · rw [if_neg e2, if_neg (by omega)]
theorem spBuy2 {D : Nat} {X : List Int} {p : Nat} {x : Int} {k : Nat} (hX : Pur D X) (hl : X.length = A.length) (hx : 0 ≤ x) (hx2 : x ≤ 60 * D) (hk : 1 ≤ k) (hD : D * k ≤ 279936) {acc : List (List DFraction)} (hacc : acc.length ≤ 100) :
    F_spec_l05Buy_l2 (frs (D * k) (payN A X p x k)) acc ((frs D X).length + 1) (frs D X) 0 = some (Sum.inr (frs (D * k) (newN A X p x k), acc ++ [frs (D * k) (payN A X p x k)])) := by
  have ha := h.a6
  rw [frs_len, hl, mix0 (p := p) (x := x) (k := k) hl]
  refine st_loop (n := A.length) (F := fun f l i => F_spec_l05Buy_l2 (frs (D * k) (payN A X p x k)) acc f l i) (mix A D X p x k) (fun f => ?_) (fun i f hi => ?_) (by omega)
  · show F_spec_l05Buy_l2 _ _ _ _ _ = _
    have hm : (mix A D X p x k A.length).length = A.length := tab_len
    rw [F_spec_l05Buy_l2.eq_2, hm, dlt_f (by omega), cond_false, app_ok (by simp; omega), mixn]
  · show F_spec_l05Buy_l2 _ _ _ _ _ = F_spec_l05Buy_l2 _ _ _ _ _
    obtain ⟨s1, s2, s3, s4⟩ := buy_sm (p := p) hX hl hx hx2 hk hD hi
    have hm : (mix A D X p x k i).length = A.length := tab_len
    have e1 : fr X[i]! D = fr (X[i]! * k) (D * k) := (fr_scale hX.d0 hk).symm
    have hsub : subF (fr X[i]! D) (fr (payI A X p x k i) (D * k)) = fr (X[i]! * k - payI A X p x k i) (D * k) := by rw [e1, sub_fr (Nat.mul_pos hX.d0 hk)]
    have hmi : ∀ {β : Type} (K : DFraction → Option β), idx (mix A D X p x k i) (i : Int) K = K (fr X[i]! D) := fun K => by
      unfold mix
      rw [idx_tab hi, if_neg (by omega)]
    have hpi : ∀ {β : Type} (K : DFraction → Option β), idx (frs (D * k) (payN A X p x k)) (i : Int) K = K (fr (payI A X p x k i) (D * k)) := fun K => by
      unfold payN
      rw [frs_tab, idx_tab hi]
    rw [F_spec_l05Buy_l2.eq_2, hm, dlt_t hi, cond_true, hmi, hpi, spSub s1 s3, hsub, res_sm s4, Option.bind_some, hmi, W_succ (n := A.length) hi (by unfold maxLen; omega), Int.toNat_natCast]
    have := mixs (A := A) (D := D) (X := X) (p := p) (x := x) (k := k) (i := i)
    rw [← this]
theorem imBought3 {D : Nat} {X : List Int} {p : Nat} {x : Int} {k : Nat} (hX : Pur D X) (hl : X.length = A.length) (hx : 0 ≤ x) (hx2 : x ≤ 60 * D) (hk : 1 ≤ k) (hD : D * k ≤ 279936) {acc : List (List DFraction)} (hacc : acc.length ≤ 100) :
    F_impl_Election_bought_l3 (frs (D * k) (payN A X p x k)) acc ((frs (D * k) (payN A X p x k)).length + 1) (frs D X) 0 = some (Sum.inr (frs (D * k) (newN A X p x k), acc ++ [frs (D * k) (payN A X p x k)])) := by
  have ha := h.a6
  have hpl : (frs (D * k) (payN A X p x k)).length = A.length := by rw [frs_len, payN_len]
  rw [hpl, mix0 (p := p) (x := x) (k := k) hl]
  refine st_loop (n := A.length) (F := fun f l i => F_impl_Election_bought_l3 (frs (D * k) (payN A X p x k)) acc f l i) (mix A D X p x k) (fun f => ?_) (fun i f hi => ?_) (by omega)
  · show F_impl_Election_bought_l3 _ _ _ _ _ = _
    rw [F_impl_Election_bought_l3.eq_2, hpl, dlt_f (by omega), cond_false, app_ok (by simp; omega), mixn]
  · show F_impl_Election_bought_l3 _ _ _ _ _ = F_impl_Election_bought_l3 _ _ _ _ _
    obtain ⟨s1, s2, s3, s4⟩ := buy_sm (p := p) hX hl hx hx2 hk hD hi
    have e1 : fr X[i]! D = fr (X[i]! * k) (D * k) := (fr_scale hX.d0 hk).symm
    have hsub : subF (fr X[i]! D) (fr (payI A X p x k i) (D * k)) = fr (X[i]! * k - payI A X p x k i) (D * k) := by rw [e1, sub_fr (Nat.mul_pos hX.d0 hk)]
    have hmi : ∀ {β : Type} (K : DFraction → Option β), idx (mix A D X p x k i) (i : Int) K = K (fr X[i]! D) := fun K => by
      unfold mix
      rw [idx_tab hi, if_neg (by omega)]
    have hpi : ∀ {β : Type} (K : DFraction → Option β), idx (frs (D * k) (payN A X p x k)) (i : Int) K = K (fr (payI A X p x k i) (D * k)) := fun K => by
      unfold payN
      rw [frs_tab, idx_tab hi]
    rw [F_impl_Election_bought_l3.eq_2, hpl, dlt_t hi, cond_true, hpi, hmi, imMinus s1 s3, hsub, Option.bind_some, hmi, W_succ (n := A.length) hi (by unfold maxLen; omega), Int.toNat_natCast]
    have := mixs (A := A) (D := D) (X := X) (p := p) (x := x) (k := k) (i := i)
    rw [← this]
end
end Go.FX
