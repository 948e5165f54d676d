/- The pure part: what the functions compute, in plain Lean, with no program in sight; no condition. -/
import Derived.Test.YtmeeomkjjnlaoaaRuEq
import Derived.Test.YtmeeomkjjnlaoaaRuLib2
namespace Go.FX
open Go Go.GL Go.RowKit
def within (x a b : Int) : Bool := decide (a ≤ x) && decide (x ≤ b)
theorem spIn (x a b : Int) : F_spec_l00In x a b = some (within x a b) := rfl
theorem imIn (x a b : Int) : F_impl_within x a b = some (within x a b) := rfl
theorem not_ge (a b : Int) : decide (a ≥ b) = !decide (a < b) := by
  by_cases h : a < b
  · rw [decide_eq_true h, decide_eq_false (by omega)]; rfl
  · rw [decide_eq_false h, decide_eq_true (by omega)]; rfl
theorem within_iff {x a b : Int} : within x a b = true ↔ a ≤ x ∧ x ≤ b := by
  unfold within
  simp
/-! sets -/
def setC (l : List Int) (n : Int) (i : Nat) : Bool := match l[i]? with
  | some x => within x 0 n && pairAt (fun a b => decide (a < b)) l i
  | none => false
theorem setC_at {l : List Int} {n : Int} {i : Nat} (hi : i < l.length) : setC l n i = (within l[i] 0 n && pairAt (fun a b => decide (a < b)) l i) := by
  unfold setC
  rw [List.getElem?_eq_getElem hi]
def setOk (l : List Int) (n : Int) : Bool := decide (∀ i, i < l.length → setC l n i = true)
theorem spRises (l : List Int) (n : Int) (hl : l.length ≤ maxLen) : F_spec_l00Rises l 0 n = some (setOk l n) := by
  unfold F_spec_l00Rises setOk
  have := all_loop (n := l.length) (F := F_spec_l00Rises_l1 l 0 n) (setC l n) (d := true) (fun f => by rw [F_spec_l00Rises_l1.eq_2, dlt_f (by omega)]; rfl) (fun i f hi => by
    rw [F_spec_l00Rises_l1.eq_2, dlt_t hi, cond_true]
    simp only [idx_nat hi, spIn, Option.bind_some, W_succ hi hl]
    rw [pair_code (R := fun a b => decide (a < b)) hi hl (fun x _ => by rw [not_ge]), setC_at hi]
    cases within l[i] 0 n <;> cases pairAt (fun a b => decide (a < b)) l i <;> rfl)
  rw [Bool.and_true] at this
  exact this
theorem imIsSet (l : List Int) (n : Int) (hl : l.length ≤ maxLen) : F_impl_isSet l n = some (setOk l (IntKind.i64.wrap (n - 1))) := by
  unfold F_impl_isSet setOk
  have := all_loop (n := l.length) (F := F_impl_isSet_l1 l n) (setC l (IntKind.i64.wrap (n - 1))) (d := true) (fun f => by rw [F_impl_isSet_l1.eq_2, dlt_f (by omega)]; rfl) (fun i f hi => by
    rw [F_impl_isSet_l1.eq_2, dlt_t hi, cond_true]
    simp only [idx_nat hi, imIn, Option.bind_some, W_succ hi hl]
    rw [pair_code (R := fun a b => decide (a < b)) hi hl (fun x _ => by rw [not_ge]), setC_at hi]
    cases within l[i] 0 (IntKind.i64.wrap (n - 1)) <;> cases pairAt (fun a b => decide (a < b)) l i <;> rfl)
  rw [Bool.and_true] at this
  exact this
theorem set_nat {l : List Int} {c : Nat} (hc : c ≤ 1000) (h : setOk l (IntKind.i64.wrap ((c : Int) - 1)) = true) : ∃ N : List Nat, l = N.map Int.ofNat ∧ ∀ x ∈ N, x < c := by
  unfold setOk at h
  rw [decide_eq_true_eq, W_id (by omega) (by omega)] at h
  have hA : ∀ x ∈ l, 0 ≤ x ∧ x < c := by
    intro x hx
    obtain ⟨i, hi, rfl⟩ := List.getElem_of_mem hx
    have := h i hi
    rw [setC_at hi, Bool.and_eq_true, within_iff] at this
    omega
  refine ⟨l.map Int.toNat, ?_, fun x hx => ?_⟩
  · rw [List.map_map]
    refine (List.map_id l).symm.trans (List.map_congr_left fun x hx => ?_)
    simp only [id, Function.comp]
    exact (Int.toNat_of_nonneg (hA x hx).1).symm
  · obtain ⟨y, hy, rfl⟩ := List.mem_map.1 hx
    have := hA y hy
    omega
/-! increasing lists -/
theorem incr_ext : ∀ {l m : List Nat}, l.Pairwise (· < ·) → m.Pairwise (· < ·) → (∀ x, x ∈ l ↔ x ∈ m) → l = m := by
  intro l
  induction l with
  | nil =>
    intro m _ _ h
    cases m with
    | nil => rfl
    | cons b m => exact absurd ((h b).2 (List.mem_cons_self ..)) (by simp)
  | cons a l ih =>
    intro m hl hm h
    cases m with
    | nil => exact absurd ((h a).1 (List.mem_cons_self ..)) (by simp)
    | cons b m =>
      rw [List.pairwise_cons] at hl hm
      have hab : a = b := by
        have h1 := (h a).1 (List.mem_cons_self ..)
        have h2 := (h b).2 (List.mem_cons_self ..)
        rw [List.mem_cons] at h1 h2
        rcases h1 with h1 | h1
        · exact h1
        · rcases h2 with h2 | h2
          · exact h2.symm
          · have := hm.1 a h1; have := hl.1 b h2; omega
      subst hab
      rw [ih hl.2 hm.2 (fun x => ?_)]
      constructor
      · intro hx
        have := (h x).1 (List.mem_cons_of_mem _ hx)
        rw [List.mem_cons] at this
        rcases this with rfl | this
        · have := hl.1 _ hx; omega
        · exact this
      · intro hx
        have := (h x).2 (List.mem_cons_of_mem _ hx)
        rw [List.mem_cons] at this
        rcases this with rfl | this
        · have := hm.1 _ hx; omega
        · exact this
theorem pair_incr {l : List Int} (h : ∀ i, i < l.length → pairAt (fun a b => decide (a < b)) l i = true) : l.Pairwise (· < ·) := by
  rw [List.pairwise_iff_getElem]
  have step : ∀ i (hi : i + 1 < l.length), l[i]'(by omega) < l[i + 1] := fun i hi => by
    have := h (i + 1) hi
    rw [pairAt_succ hi, decide_eq_true_eq] at this
    exact this
  have far : ∀ k i (hi : i + k + 1 < l.length), l[i]'(by omega) < l[i + k + 1] := by
    intro k
    induction k with
    | zero => intro i hi; exact step i hi
    | succ k ih => intro i hi; exact Int.lt_trans (ih i (by omega)) (step (i + k + 1) hi)
  intro i j hi hj hij
  obtain ⟨k, rfl⟩ : ∃ k, j = i + k + 1 := ⟨j - i - 1, by omega⟩
  exact far k i hj
theorem set_lst {l : List Int} {c : Nat} (hc : c ≤ 1000) (h : setOk l (IntKind.i64.wrap ((c : Int) - 1)) = true) : l = lst c (fun i => l.contains (i : Int)) := by
  obtain ⟨N, rfl, hN⟩ := set_nat hc h
  have hp : N.Pairwise (· < ·) := by
    unfold setOk at h
    rw [decide_eq_true_eq] at h
    have := pair_incr (l := N.map Int.ofNat) (fun i hi => by
      have := h i hi
      rw [setC_at hi, Bool.and_eq_true] at this
      exact this.2)
    rw [List.pairwise_map] at this
    exact this.imp (fun h => by simpa using h)
  unfold lst
  congr 1
  refine incr_ext hp (List.Pairwise.filter _ List.pairwise_lt_range) (fun x => ?_)
  rw [List.mem_filter, List.mem_range, List.contains_iff_mem, List.mem_map]
  constructor
  · intro hx; exact ⟨hN x hx, x, hx, rfl⟩
  · rintro ⟨-, y, hy, e⟩
    have : y = x := by have : (y : Int) = x := e; omega
    exact this ▸ hy
/-! membership -/
theorem spHas (l : List Int) (x : Int) (hl : l.length ≤ maxLen) : F_spec_l00Has l x = some (l.contains x) := by
  unfold F_spec_l00Has
  have key : ∀ k i f, i + k = l.length → k < f → F_spec_l00Has_l1 l x f (i : Int) = some ((l.drop i).contains x) := by
    refine up (P := fun i f => F_spec_l00Has_l1 l x f (i : Int) = some ((l.drop i).contains x)) (fun f => ?_) (fun i f hi ih => ?_)
    · rw [F_spec_l00Has_l1.eq_2, dlt_f (by omega), List.drop_of_length_le (by omega)]; rfl
    · rw [F_spec_l00Has_l1.eq_2, dlt_t hi, cond_true, idx_nat hi, W_succ hi hl, ih, List.drop_eq_getElem_cons hi, List.contains_cons, show (x == l[i]) = (l[i] == x) from BEq.comm]
      cases l[i] == x <;> rfl
  have := key l.length 0 (l.length + 1) (by omega) (by omega)
  rw [List.drop_zero] at this
  exact this
theorem any_beq {l : List Int} {x : Int} : (l.any fun y => x == y) = l.contains x := by
  rw [Bool.eq_iff_iff, List.any_eq_true, List.contains_iff_mem]
  exact ⟨fun ⟨y, h1, h2⟩ => by rw [beq_iff_eq.1 h2]; exact h1, fun h => ⟨x, h, beq_self_eq_true x⟩⟩
theorem imContains (l : List Int) (x : Int) (hl : l.length ≤ maxLen) : F_slices_Contains_int64_int64 l x = some (l.contains x) := by
  unfold F_slices_Contains_int64_int64
  have h : F_slices_Index_int64_int64 l x = some (fidx (fun y => x == y) l) :=
    idxf_loop (F := F_slices_Index_int64_int64_l1 l x) (P := fun y => some (x == y)) _ (fun _ _ => rfl) hl (fun _ _ => rfl)
  rw [h, Option.bind_some, fidx_ge, any_beq]
theorem lst_contains {n : Nat} {p : Nat → Bool} {i : Nat} : (lst n p).contains (i : Int) = (decide (i < n) && p i) := by
  rw [Bool.eq_iff_iff, List.contains_iff_mem, mem_lst, Bool.and_eq_true, decide_eq_true_eq]
  constructor
  · rintro ⟨j, h1, h2, h3⟩
    have : i = j := by omega
    subst this; exact ⟨h1, h2⟩
  · rintro ⟨h1, h2⟩; exact ⟨i, h1, h2, rfl⟩
/-! elections -/
def smEl (e : DElection) : Prop := e.fCosts.length ≤ maxLen ∧ e.fApprovals.length ≤ maxLen ∧ ∀ a ∈ e.fApprovals, a.length ≤ maxLen
theorem smEl_to {e : LElection} (h : ok_LElection e) : smEl (to_LElection e) := by
  have e1 : (to_LElection e).fApprovals = e.fApprovals := List.map_id' _
  unfold smEl
  rw [e1]
  exact ⟨h.2.1.1, h.2.2.1, fun a ha => (h.2.2.2 a ha).1⟩
def costC (e : DElection) (i : Nat) : Bool := match e.fCosts[i]? with | some x => within x 1 60 | none => false
def apprC (e : DElection) (i : Nat) : Bool := match e.fApprovals[i]? with | some l => setOk l (IntKind.i64.wrap ((e.fCosts.length : Int) - 1)) | none => false
theorem costC_at {e : DElection} {i : Nat} (h : i < e.fCosts.length) : costC e i = within e.fCosts[i] 1 60 := by unfold costC; rw [List.getElem?_eq_getElem h]
theorem apprC_at {e : DElection} {i : Nat} (h : i < e.fApprovals.length) : apprC e i = setOk e.fApprovals[i] (IntKind.i64.wrap ((e.fCosts.length : Int) - 1)) := by unfold apprC; rw [List.getElem?_eq_getElem h]
def elOk (e : DElection) : Bool := (within e.fMoney 0 60 && (within (e.fCosts.length : Int) 1 6 && within (e.fApprovals.length : Int) 1 6)) && ((List.range e.fCosts.length).all (costC e) && (List.range e.fApprovals.length).all (apprC e))
theorem spElect (e : DElection) (h : smEl e) : F_spec_l05Ok e = some (elOk e) := by
  unfold F_spec_l05Ok elOk
  have h1 : F_spec_l05Ok_l1 e (e.fCosts.length + 1) 0 = bif (List.range e.fCosts.length).all (costC e) then some (Sum.inr ()) else some (Sum.inl false) := by
    refine all_loopG (F := F_spec_l05Ok_l1 e) (costC e) (fun f => ?_) (fun i f hi => ?_) (by omega)
    · rw [F_spec_l05Ok_l1.eq_2, dlt_f (by omega), cond_false]
    · rw [F_spec_l05Ok_l1.eq_2, dlt_t hi, cond_true, idx_nat hi, spIn, Option.bind_some, W_succ hi h.1, costC_at hi]
      cases within e.fCosts[i] 1 60 <;> rfl
  have h2 : F_spec_l05Ok_l2 e (e.fApprovals.length + 1) 0 = bif (List.range e.fApprovals.length).all (apprC e) then some true else some false := by
    refine all_loopG (F := F_spec_l05Ok_l2 e) (apprC e) (fun f => ?_) (fun i f hi => ?_) (by omega)
    · rw [F_spec_l05Ok_l2.eq_2, dlt_f (by omega), cond_false]
    · rw [F_spec_l05Ok_l2.eq_2, dlt_t hi, cond_true, idx_nat hi, spRises _ _ (h.2.2 _ (List.getElem_mem hi)), Option.bind_some, W_succ hi h.2.1, apprC_at hi]
      cases setOk e.fApprovals[i] (IntKind.i64.wrap ((e.fCosts.length : Int) - 1)) <;> rfl
  rw [h1, h2, spIn, Option.bind_some]
  unfold within
  rw [show decide ((e.fCosts.length : Int) < 1) = !decide (1 ≤ (e.fCosts.length : Int)) by rw [← decide_not, decide_eq_decide]; omega,
    show decide ((e.fCosts.length : Int) > 6) = !decide ((e.fCosts.length : Int) ≤ 6) by rw [← decide_not, decide_eq_decide]; omega,
    show decide ((e.fApprovals.length : Int) < 1) = !decide (1 ≤ (e.fApprovals.length : Int)) by rw [← decide_not, decide_eq_decide]; omega,
    show decide ((e.fApprovals.length : Int) > 6) = !decide ((e.fApprovals.length : Int) ≤ 6) by rw [← decide_not, decide_eq_decide]; omega]
  cases decide (0 ≤ e.fMoney) <;> cases decide (e.fMoney ≤ 60) <;> cases decide (1 ≤ (e.fCosts.length : Int)) <;> cases decide ((e.fCosts.length : Int) ≤ 6) <;> cases decide (1 ≤ (e.fApprovals.length : Int)) <;> cases decide ((e.fApprovals.length : Int) ≤ 6) <;> cases (List.range e.fCosts.length).all (costC e) <;> cases (List.range e.fApprovals.length).all (apprC e) <;> rfl
theorem imElect (e : DElection) (h : smEl e) : F_impl_ValidElection e = some (elOk e) := by
  unfold F_impl_ValidElection elOk
  have h3 : F_slices_ContainsFunc_int64_int64__impl_ValidElection_1 e.fApprovals e = some (!(List.range e.fApprovals.length).all (apprC e)) := by
    unfold F_slices_ContainsFunc_int64_int64__impl_ValidElection_1
    have : F_slices_IndexFunc_int64_int64__impl_ValidElection_1 e.fApprovals e = some (fidx (fun l : List Int => !setOk l (IntKind.i64.wrap ((e.fCosts.length : Int) - 1))) e.fApprovals) := by
      refine idxf_loop (F := F_slices_IndexFunc_int64_int64__impl_ValidElection_1_l1 e.fApprovals e) (P := fun x => F_impl_ValidElection_1 x e) _ (fun _ _ => rfl) h.2.1 (fun l hl => ?_)
      unfold F_impl_ValidElection_1
      rw [imIsSet l _ (h.2.2 l hl), Option.bind_some]
    rw [this, Option.bind_some, fidx_ge]
    congr 1
    rw [Bool.eq_iff_iff, List.any_eq_true, Bool.not_eq_true', ← Bool.not_eq_true, List.all_eq_true]
    constructor
    · rintro ⟨l, hl, hp⟩ hall
      obtain ⟨i, hi, rfl⟩ := List.getElem_of_mem hl
      have := hall i (List.mem_range.2 hi)
      rw [apprC_at hi] at this
      rw [this] at hp; cases hp
    · intro hn
      refine Classical.byContradiction fun hno => hn fun i hi => ?_
      have hi := List.mem_range.1 hi
      rw [apprC_at hi]
      cases hs : setOk e.fApprovals[i] (IntKind.i64.wrap ((e.fCosts.length : Int) - 1)) with
      | true => rfl
      | false => exact absurd ⟨_, List.getElem_mem hi, by rw [hs]; rfl⟩ hno
  have h1 : F_impl_ValidElection_l1 e (e.fCosts.length + 1) 0 = bif (List.range e.fCosts.length).all (costC e) then some ((List.range e.fApprovals.length).all (apprC e)) else some false := by
    refine all_loopG (F := F_impl_ValidElection_l1 e) (costC e) (fun f => ?_) (fun i f hi => ?_) (by omega)
    · rw [F_impl_ValidElection_l1.eq_2, dlt_f (by omega), cond_false, h3, Option.bind_some, Bool.not_not]
    · rw [F_impl_ValidElection_l1.eq_2, dlt_t hi, cond_true, idx_nat hi, imIn, Option.bind_some, W_succ hi h.1, costC_at hi]
      cases within e.fCosts[i] 1 60 <;> rfl
  rw [h1, imIn, imIn, imIn]
  cases within e.fMoney 0 60 <;> cases within (e.fCosts.length : Int) 1 6 <;> cases within (e.fApprovals.length : Int) 1 6 <;> cases (List.range e.fCosts.length).all (costC e) <;> cases (List.range e.fApprovals.length).all (apprC e) <;> rfl
/-- a valid election: money, costs and who approves what -/
def ele (m : Nat) (C : List Nat) (A : List (Nat → Bool)) : DElection := ⟨m, C.map Int.ofNat, A.map fun p => lst C.length p⟩
structure Elec (m : Nat) (C : List Nat) (A : List (Nat → Bool)) : Prop where
  money : m ≤ 360
  c1 : 1 ≤ C.length
  c6 : C.length ≤ 6
  a1 : 1 ≤ A.length
  a6 : A.length ≤ 6
  cost : ∀ c ∈ C, 1 ≤ c ∧ c ≤ 60
theorem elect_nat {e : DElection} (h : elOk e = true) : ∃ m C A, e = ele m C A ∧ Elec m C A := by
  obtain ⟨n, C, A⟩ := e
  unfold elOk at h
  simp only [Bool.and_eq_true, List.all_eq_true, List.mem_range, within_iff] at h
  obtain ⟨⟨⟨m0, m1⟩, ⟨c0, c1⟩, a0, a1⟩, hC, hA⟩ := h
  have hC' : ∀ x ∈ C, 1 ≤ x ∧ x ≤ 60 := fun x hx => by
    obtain ⟨i, hi, rfl⟩ := List.getElem_of_mem hx
    have := hC i hi
    rw [costC_at (e := ⟨n, C, A⟩) hi, within_iff] at this
    exact this
  have hlen : (C.map Int.toNat).length = C.length := List.length_map _
  refine ⟨n.toNat, C.map Int.toNat, A.map (fun l i => l.contains (i : Int)), ?_, ⟨by omega, by omega, by omega, by rw [List.length_map]; omega, by rw [List.length_map]; omega, fun c hc => ?_⟩⟩
  · unfold ele
    rw [Int.toNat_of_nonneg m0, List.map_map, List.map_map, hlen]
    congr 1
    · refine (List.map_id C).symm.trans (List.map_congr_left fun x hx => ?_)
      have h1 := (hC' x hx).1; exact (Int.toNat_of_nonneg (show (0:Int) ≤ x by omega)).symm
    · refine (List.map_id A).symm.trans (List.map_congr_left fun l hl => ?_)
      obtain ⟨i, hi, rfl⟩ := List.getElem_of_mem hl
      have := hA i hi
      rw [apprC_at (e := ⟨n, C, A⟩) hi] at this
      exact set_lst (c := C.length) (by have : (C.length : Int) ≤ 6 := c1; omega) this
  · obtain ⟨x, hx, rfl⟩ := List.mem_map.1 hc
    have := hC' x hx
    omega
end Go.FX
