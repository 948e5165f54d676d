/- The pure part: what the functions compute, in plain Lean, with no program in sight; no condition. -/
import Derived.Test.YtegfiapfgffcgaaBeEqual2
namespace Go.FX
open Go Go.GL Go.RowKit
/-! what is paid is the cost -/
def mn (x : Int) (k : Nat) (y : Int) : Int := if y * k < x then y * k else x
theorem prc_big {D : Nat} : ∀ {S : List Int} {left x y : Int} {k : Nat}, prc D left S = some (x, k) → S.Pairwise (fun a b => a ≤ b) → (∀ s ∈ S, y ≤ s) → y * (S.length : Int) < left → y * (k : Int) ≤ x := by
  intro S
  induction S with
  | nil => intro left x y k e; cases e
  | cons s S ih =>
    intro left x y k e hp hy hl
    rw [List.pairwise_cons] at hp
    unfold prc at e
    by_cases q : left ≤ s * ((S.length + 1 : Nat) : Int)
    · rw [if_pos q] at e
      cases e
      rw [List.length_cons] at hl
      omega
    · rw [if_neg q] at e
      have hs := hy s (List.mem_cons_self ..)
      refine ih e hp.2 (fun t ht => hy t (List.mem_cons_of_mem _ ht)) ?_
      have h1 : s * ((S.length + 1 : Nat) : Int) = s * (S.length : Int) + s := by rw [Int.natCast_add, Int.mul_add]; simp
      have h2 : y * (S.length : Int) ≤ s * (S.length : Int) := Int.mul_le_mul_of_nonneg_right hs (by omega)
      omega
theorem mn_big {x y : Int} {k : Nat} (h : y * (k : Int) ≤ x) : mn x k y = y * k := by
  unfold mn
  split <;> omega
theorem mn_small {x y : Int} {k : Nat} (h : x ≤ y * (k : Int)) : mn x k y = x := by
  unfold mn
  split <;> omega
theorem sum_const {x : Int} {f : Int → Int} : ∀ {l : List Int}, (∀ y ∈ l, f y = x) → (l.map f).sum = x * (l.length : Int) := by
  intro l
  induction l with
  | nil => intro _; simp
  | cons a l ih =>
    intro h
    rw [List.map_cons, List.sum_cons, h a (List.mem_cons_self ..), ih fun y hy => h y (List.mem_cons_of_mem _ hy), List.length_cons, Int.natCast_add, Int.mul_add]
    simp
    omega
theorem prc_sum {D : Nat} : ∀ {S : List Int} {left x : Int} {k : Nat}, prc D left S = some (x, k) → S.Pairwise (fun a b => a ≤ b) → (∀ s ∈ S, 0 ≤ s) → (S.map (mn x k)).sum = left * (k : Int) := by
  intro S
  induction S with
  | nil => intro left x k e; cases e
  | cons s S ih =>
    intro left x k e hp h0
    have hp0 := hp
    rw [List.pairwise_cons] at hp
    unfold prc at e
    by_cases q : left ≤ s * ((S.length + 1 : Nat) : Int)
    · rw [if_pos q] at e
      cases e
      have : ∀ y ∈ s :: S, mn left (S.length + 1) y = left := fun y hy => by
        refine mn_small (Int.le_trans q (Int.mul_le_mul_of_nonneg_right ?_ (by omega)))
        rcases List.mem_cons.1 hy with rfl | hy
        · exact Int.le_refl _
        · exact hp.1 y hy
      rw [sum_const this, List.length_cons]
    · rw [if_neg q] at e
      have h1 : s * ((S.length + 1 : Nat) : Int) = s * (S.length : Int) + s := by rw [Int.natCast_add, Int.mul_add]; simp
      have hb := prc_big e hp.2 hp.1 (by omega)
      rw [List.map_cons, List.sum_cons, mn_big hb, ih e hp.2 (fun t ht => h0 t (List.mem_cons_of_mem _ ht)), ← Int.add_mul]
      congr 1
      omega
theorem sum_filter {n : Nat} {p : Nat → Bool} {f : Nat → Int} : (((List.range n).filter p).map f).sum = ((List.range n).map fun i => if p i = true then f i else 0).sum := by
  induction n with
  | zero => rfl
  | succ n ih =>
    rw [List.range_succ, List.filter_append, List.map_append, List.map_append, List.sum_append, List.sum_append, ih]
    by_cases q : p n = true <;> simp [q]
theorem perm_sum {l m : List Int} (h : l.Perm m) : l.sum = m.sum := by
  induction h with
  | nil => rfl
  | cons x _ ih => rw [List.sum_cons, List.sum_cons, ih]
  | swap x y l => simp only [List.sum_cons]; omega
  | trans _ _ h1 h2 => rw [h1, h2]
/-- the payments' sum -/
theorem pay_sum {D : Nat} {A : List (Nat → Bool)} {X : List Int} {p : Nat} {left x : Int} {k : Nat} (hX : Pur D X) (hl : X.length = A.length) (e : prc D left (srt (own A X p)) = some (x, k)) :
    (payN A X p x k).sum = left * (k : Int) := by
  rw [← prc_sum e srt_up fun s hs => hX.nn s (own_mem hl (srt_mem.1 hs)), perm_sum (srt_perm.map _)]
  unfold own sup lst payN tab
  rw [List.map_map, List.map_map]
  have := sum_filter (n := A.length) (p := likes A p) (f := fun i => mn x k X[i]!)
  refine Eq.trans ?_ (this.symm.trans ?_)
  · congr 1
  · congr 1
theorem sum_sub {n : Nat} {f g : Nat → Int} : ((List.range n).map fun i => f i - g i).sum = ((List.range n).map f).sum - ((List.range n).map g).sum := by
  induction n with
  | zero => rfl
  | succ n ih =>
    rw [List.range_succ, List.map_append, List.map_append, List.map_append, List.sum_append, List.sum_append, List.sum_append, ih]
    simp
    omega
theorem sum_mul {n : Nat} {f : Nat → Int} {k : Int} : ((List.range n).map fun i => f i * k).sum = ((List.range n).map f).sum * k := by
  induction n with
  | zero => simp
  | succ n ih =>
    rw [List.range_succ, List.map_append, List.map_append, List.sum_append, List.sum_append, ih, Int.add_mul]
    simp
theorem new_sum {D : Nat} {A : List (Nat → Bool)} {X : List Int} {p : Nat} {left x : Int} {k : Nat} (hX : Pur D X) (hl : X.length = A.length) (e : prc D left (srt (own A X p)) = some (x, k)) :
    (newN A X p x k).sum = X.sum * k - left * k := by
  have h := pay_sum hX hl e
  unfold newN payN tab at *
  rw [sum_sub, sum_mul, h]
  congr 2
  have := eq_tab X
  unfold tab at this
  rw [hl] at this
  rw [← this]
def costs (C : List Nat) (os : List Nat) : Int := (os.map fun p : Nat => ((C[p]! : Nat) : Int)).sum
theorem run_sum {m : Nat} {C : List Nat} {A : List (Nat → Bool)} (h : Elec m C A) : ∀ {os : List Nat} {i D : Nat} {X : List Int} {s : Nat × List Int} {L : List (List DFraction)}, run C A D X os = some (s, L) → (∀ p ∈ os, p < C.length) → Pur D X → X.length = A.length → D ≤ 6 ^ (i + 1) → i + os.length ≤ 6 →
    ∀ r : Int, X.sum = r * D → s.2.sum = (r - costs C os) * s.1 := by
  intro os
  induction os with
  | nil => intro i D X s L e _ hX hl hD _ r hr; cases e; simp [costs, hr]
  | cons p os ih =>
    intro i D X s L e ho hX hl hD hi r hr
    unfold run at e
    cases q : prc D ((C[p]! : Int) * D) (srt (own A X p)) with
    | none => rw [q] at e; cases e
    | some v =>
      obtain ⟨x, k⟩ := v
      rw [q] at e
      simp only at e
      obtain ⟨h1, h2, h3, h4⟩ := prc_facts h hX hl (ho p (List.mem_cons_self ..)) q
      simp only [List.length_cons] at hi
      have hDk : D * k ≤ 6 ^ (i + 1 + 1) := by rw [Nat.pow_succ]; exact Nat.mul_le_mul hD h4
      cases q2 : run C A (D * k) (newN A X p x k) os with
      | none => rw [q2] at e; cases e
      | some v =>
        obtain ⟨s2, L2⟩ := v
        rw [q2] at e
        cases e
        have := ih (i := i + 1) q2 (fun p hp => ho p (List.mem_cons_of_mem _ hp)) (hX.new hl h1 h3 (Nat.le_trans hDk (pow6 (by omega)))) newN_len hDk (by omega) (r - C[p]!) (by
          rw [new_sum hX hl q, hr, Int.natCast_mul, ← Int.mul_assoc, ← Int.sub_mul, ← Int.sub_mul])
        rw [this]
        congr 1
        unfold costs
        rw [List.map_cons, List.sum_cons]
        omega
theorem sum_nn : ∀ {l : List Int}, (∀ x ∈ l, 0 ≤ x) → 0 ≤ l.sum := by
  intro l
  induction l with
  | nil => intro _; simp
  | cons a l ih =>
    intro h
    have := ih fun y hy => h y (List.mem_cons_of_mem _ hy)
    have := h a (List.mem_cons_self ..)
    rw [List.sum_cons]
    omega
theorem eqO_cost {m : Nat} {C : List Nat} {A : List (Nat → Bool)} (h : Elec m C A) : costs C (eqO m C A) ≤ m := by
  have hg := eqO_good (m := m) (C := C) (A := A)
  have hn : (eqO m C A).length ≤ 6 := Nat.le_trans hg.len h.c6
  obtain ⟨⟨⟨D, X⟩, L⟩, e⟩ := Option.isSome_iff_exists.1 hg.ok
  obtain ⟨h1, h2⟩ := runO_pur h e hg.lt hn
  have hs : (shr0 m A).sum = (m : Int) * A.length := by
    unfold shr0 tab
    have := sum_const (x := (m : Int)) (f := fun _ => (m : Int)) (l := (List.range A.length).map Int.ofNat) (fun _ _ => rfl)
    rw [List.map_map, List.length_map, List.length_range] at this
    exact this
  have := run_sum h (i := 0) e hg.lt (shr_pur h) shr0_len (by have := h.a6; omega) (by omega) (m : Int) hs
  simp only at this h1
  have hnn := sum_nn h1.nn
  rw [this] at hnn
  have hd : (0 : Int) < D := by have := h1.d0; omega
  have := Int.nonneg_of_mul_nonneg_left hnn hd
  omega
/-! completed shares -/
section
variable {m : Nat} {C : List Nat} {A : List (Nat → Bool)} (h : Elec m C A)
theorem costs_b {os : List Nat} (hc : ∀ c ∈ C, 1 ≤ c ∧ c ≤ 60) (ho : ∀ p ∈ os, p < C.length) : 0 ≤ costs C os ∧ costs C os ≤ 60 * (os.length : Int) := by
  induction os with
  | nil => exact ⟨by simp [costs], by simp [costs]⟩
  | cons p os ih =>
    have := ih fun q hq => ho q (List.mem_cons_of_mem _ hq)
    have hp := ho p (List.mem_cons_self ..)
    have h1 := hc C[p] (List.getElem_mem hp)
    have e : costs C (p :: os) = (C[p]! : Int) + costs C os := by unfold costs; rw [List.map_cons, List.sum_cons]
    rw [e, getElem!_pos C p hp, List.length_cons]
    omega
theorem costs_snoc {os : List Nat} {p : Nat} : costs C (os ++ [p]) = costs C os + C[p]! := by
  unfold costs
  rw [List.map_append, List.sum_append]
  simp
include h
theorem cost_loop {os : List Nat} (ho : ∀ p ∈ os, p < C.length) (hn : os.length ≤ 6) {F : Nat → Int → Int → Option Int}
    (hF : ∀ f x i, F (f + 1) x i = bif decide (i < ((os.map Int.ofNat).length : Int)) then (idx (os.map Int.ofNat) i fun y => idx (ele m C A).fCosts y fun z => F f (IntKind.i64.wrap (x + z)) (IntKind.i64.wrap (i + 1))) else some x) :
    F ((os.map Int.ofNat).length + 1) 0 0 = some (costs C os) := by
  have hlen : (os.map Int.ofNat).length = os.length := List.length_map _
  have key : ∀ k i f, i + k = os.length → k < f → F f (costs C (os.take i)) (i : Int) = some (costs C os) := by
    refine up (P := fun i f => F f (costs C (os.take i)) (i : Int) = some (costs C os)) (fun f => ?_) (fun i f hi ih => ?_)
    · rw [hF, hlen, dlt_f (by omega), List.take_length]; rfl
    · have hp := ho _ (List.getElem_mem hi)
      have hb := costs_b (C := C) (os := os.take (i + 1)) h.cost fun p hp => ho p (List.mem_of_mem_take hp)
      have hl6 : (os.take (i + 1)).length ≤ 6 := by rw [List.length_take]; omega
      have e : costs C (os.take (i + 1)) = costs C (os.take i) + C[os[i]] := by rw [← List.take_append_getElem hi, costs_snoc, getElem!_pos C _ hp]
      rw [hF, hlen, dlt_t hi, cond_true, idx_nat (by rw [hlen]; exact hi), List.getElem_map, show (Int.ofNat os[i]) = ((os[i] : Nat) : Int) from rfl, idx_C hp, W_succ hi (by unfold maxLen; omega), ← e, W_id (by omega) (by omega)]
      exact ih
  rw [hlen]
  exact key os.length 0 (os.length + 1) (by omega) (by omega)
theorem spCost {os : List Nat} (ho : ∀ p ∈ os, p < C.length) (hn : os.length ≤ 6) : F_spec_l05Cost (ele m C A) (os.map Int.ofNat) = some (costs C os) :=
  cost_loop h ho hn (F := F_spec_l05Cost_l1 (os.map Int.ofNat) (ele m C A)) fun _ _ _ => rfl
theorem imCost {os : List Nat} (ho : ∀ p ∈ os, p < C.length) (hn : os.length ≤ 6) : F_impl_Election_cost (ele m C A) (os.map Int.ofNat) = some (costs C os) :=
  cost_loop h ho hn (F := F_impl_Election_cost_l1 (os.map Int.ofNat) (ele m C A)) fun _ _ _ => rfl
theorem withM {k : Nat} (hk : k ≤ 360) : Elec k C A := ⟨hk, h.c1, h.c6, h.a1, h.a6, h.cost⟩
/-- one side's loop, from the money k on, with the order and the money that stand -/
def compl (m : Nat) (C : List Nat) (A : List (Nat → Bool)) : Nat → Nat → List Nat → Nat → List Nat × Nat
  | 0, _, os, last => (os, last)
  | d + 1, k, os, last => if costs C (eqO k C A) > m then (os, last) else compl m C A d (k + 1) (eqO k C A) k
theorem imCompl : ∀ (d f k : Nat) (os : List Nat) (last : Nat), k + d = 361 → d < f → F_impl_CompletedShares_l1 (ele m C A) f (os.map Int.ofNat) (last : Int) (k : Int) = some (((compl m C A d k os last).1.map Int.ofNat), ((compl m C A d k os last).2 : Int), true) := by
  intro d
  induction d with
  | zero =>
    intro f k os last hk hf
    obtain ⟨f, rfl⟩ : ∃ g, f = g + 1 := ⟨f - 1, by omega⟩
    rw [F_impl_CompletedShares_l1.eq_2, decide_eq_false (by omega)]
    rfl
  | succ d ih =>
    intro f k os last hk hf
    obtain ⟨f, rfl⟩ : ∃ g, f = g + 1 := ⟨f - 1, by omega⟩
    have hE := withM h (k := k) (by omega)
    have hg := eqO_good (m := k) (C := C) (A := A)
    have e : DElection.mk (k : Int) (ele m C A).fCosts (ele m C A).fApprovals = ele k C A := rfl
    rw [F_impl_CompletedShares_l1.eq_2, decide_eq_true (by omega), cond_true, e, imEqual hE, Option.bind_some, imCost h hg.lt (Nat.le_trans hg.len h.c6), Option.bind_some, compl]
    have hm : (ele m C A).fMoney = (m : Int) := rfl
    rw [hm]
    by_cases q : costs C (eqO k C A) > m
    · rw [decide_eq_true q, if_pos q]; rfl
    · rw [decide_eq_false q, if_neg q, cond_false, W_id (by omega) (by omega)]
      exact ih f (k + 1) (eqO k C A) k (by omega) (by omega)
theorem spCompl : ∀ (d f k : Nat) (os : List Nat), k + d = 360 → d < f → F_spec_CompletedShares_l1 (ele m C A) f (k : Int) (os.map Int.ofNat) (k : Int) = some (((compl m C A d (k + 1) os k).1.map Int.ofNat), ((compl m C A d (k + 1) os k).2 : Int), true) := by
  intro d
  induction d with
  | zero =>
    intro f k os hk hf
    obtain ⟨f, rfl⟩ : ∃ g, f = g + 1 := ⟨f - 1, by omega⟩
    rw [F_spec_CompletedShares_l1.eq_2, decide_eq_false (by omega)]
    rfl
  | succ d ih =>
    intro f k os hk hf
    obtain ⟨f, rfl⟩ : ∃ g, f = g + 1 := ⟨f - 1, by omega⟩
    have hE := withM h (k := k + 1) (by omega)
    have hg := eqO_good (m := k + 1) (C := C) (A := A)
    have ew : IntKind.i64.wrap ((k : Int) + 1) = ((k + 1 : Nat) : Int) := by rw [W_id (by omega) (by omega)]; rfl
    have e : DElection.mk ((k + 1 : Nat) : Int) (ele m C A).fCosts (ele m C A).fApprovals = ele (k + 1) C A := rfl
    rw [F_spec_CompletedShares_l1.eq_2, decide_eq_true (by omega), cond_true, ew, e, spEqual hE, Option.bind_some, spCost h hg.lt (Nat.le_trans hg.len h.c6), Option.bind_some, compl]
    have hm : (ele m C A).fMoney = (m : Int) := rfl
    rw [hm]
    by_cases q : costs C (eqO (k + 1) C A) > m
    · rw [decide_eq_true q, if_pos q]; rfl
    · rw [decide_eq_false q, if_neg q, cond_false]
      exact ih f (k + 1) (eqO (k + 1) C A) (by omega) (by omega)
theorem compl_len : ∀ (d k : Nat) (os : List Nat) (last : Nat), os.length ≤ 6 → (compl m C A d k os last).1.length ≤ 6 := by
  intro d
  induction d with
  | zero => intro k os last ho; exact ho
  | succ d ih =>
    intro k os last ho
    unfold compl
    split
    · exact ho
    · exact ih _ _ _ (Nat.le_trans eqO_good.len h.c6)
end
theorem eqCompl (e : DElection) (h : smEl e) : ∃ r, F_spec_CompletedShares e = some r ∧ F_impl_CompletedShares e = some r ∧ r.1.length ≤ 1048576 := by
  unfold F_spec_CompletedShares F_impl_CompletedShares
  rw [spElect e h, imElect e h]
  simp only [Option.bind_some]
  cases q : elOk e
  · exact ⟨_, rfl, rfl, by simp⟩
  · obtain ⟨m, C, A, rfl, he⟩ := elect_nat q
    simp only [Bool.not_true, cond_false]
    have hm := he.money
    have hM : (ele m C A).fMoney = (m : Int) := rfl
    rw [spEqual he, Option.bind_some, hM, spCompl he (360 - m) _ m (eqO m C A) (by omega) (by omega)]
    refine ⟨_, rfl, ?_, ?_⟩
    · have := imCompl he (361 - m) (Int.toNat (360 - (m : Int)) + 2) m [] m (by omega) (by omega)
      rw [List.map_nil] at this
      rw [this, show 361 - m = (360 - m) + 1 by omega, compl, if_neg (by have := eqO_cost he; omega)]
    · have := compl_len he (360 - m) (m + 1) (eqO m C A) m (Nat.le_trans eqO_good.len he.c6)
      rw [List.length_map]
      omega
end Go.FX
