/- The pure part: what the functions compute, in plain Lean, with no program in sight; no condition. -/
import Derived.Test.YtegfiapfgffcgaaBcPaid2
namespace Go.FX
open Go Go.GL Go.RowKit
instance : Inhabited DFraction := ⟨⟨0, 0⟩⟩
/-! what each voter pays in all -/
/-- payments whose rows are valid and of the right length -/
structure Rows (n : Nat) (P : List (List DFraction)) : Prop where
  len : P.length ≤ 6
  row : ∀ r ∈ P, r.length = n
  val : ∀ r ∈ P, ∀ f ∈ r, VF f
def col (P : List (List DFraction)) (i : Nat) : List DFraction := P.map fun r => r[i]!
def shareF (m : Nat) (A : List (Nat → Bool)) : DFraction := fr (m : Int) A.length
def colOk (m : Nat) (A : List (Nat → Bool)) (P : List (List DFraction)) (i : Nat) : Bool := match sumF zF (col P i) with
  | some s => !decide (cmpF s (shareF m A) > 0)
  | none => false
def rest (m : Nat) (A : List (Nat → Bool)) (P : List (List DFraction)) (i : Nat) : DFraction := match sumF zF (col P i) with
  | some s => (res (subF (shareF m A) s)).1
  | none => ⟨0, 0⟩
theorem col_valid {n : Nat} {P : List (List DFraction)} (hP : Rows n P) {i : Nat} (hi : i < n) : ∀ f ∈ col P i, VF f := by
  intro f hf
  obtain ⟨r, hr, rfl⟩ := List.mem_map.1 hf
  have := hP.row r hr
  rw [getElem!_pos r i (by omega)]
  exact hP.val r hr _ (List.getElem_mem _)
theorem rows_of {C : List Nat} {A : List (Nat → Bool)} {os : List Nat} {P : List (List DFraction)} (hn : os.length ≤ 6) (hP : P.length = os.length) (h : (List.range P.length).all (rowC C A os P) = true) : Rows A.length P := by
  rw [List.all_eq_true] at h
  have hr : ∀ r ∈ P, r.length = A.length ∧ r.all vF = true := fun r hr => by
    obtain ⟨k, hk, rfl⟩ := List.getElem_of_mem hr
    have := h k (List.mem_range.2 hk)
    rw [rowC_at hk (by omega), Bool.and_eq_true, Bool.and_eq_true, Bool.and_eq_true, decide_eq_true_iff] at this
    exact ⟨this.1.1, this.1.2.1⟩
  exact ⟨by omega, fun r h => (hr r h).1, fun r h f hf => vF_iff.1 (List.all_eq_true.1 (hr r h).2 f hf)⟩
theorem col_loop {n : Nat} {P : List (List DFraction)} (hP : Rows n P) {i : Nat} (hi : i < n) {F : Nat → List DFraction → Int → Option (List DFraction)}
    (hF : ∀ f l k, F (f + 1) l k = bif decide (k < (P.length : Int)) then (idx P k fun r => idx r (i : Int) fun x => app l [x] fun _ => F f (l ++ [x]) (IntKind.i64.wrap (k + 1))) else some l) :
    F (P.length + 1) [] 0 = some (col P i) := by
  have hl := hP.len
  have := app_loop (b := 1) (n := P.length) (F := F) (m := P.length + 1) (acc := []) (fun k => [(P[k]!)[i]!]) some 0
    (fun j _ => by simp) (fun f acc => by rw [hF, dlt_f (by omega)]; rfl)
    (fun f acc k hk hacc => by
      have hr := hP.row _ (List.getElem_mem hk)
      have hi' : i < P[k].length := by omega
      rw [hF, dlt_t hk, cond_true, idx_nat hk, idx_nat hi', app_ok (by simp; omega), W_succ hk (by unfold maxLen; omega), getElem!_pos P k hk, getElem!_pos P[k] i hi']) (by omega) (by simp)
  rw [this, List.nil_append]
  congr 1
  have e := eq_tab P
  unfold col
  conv => rhs; rw [e]
  unfold tab
  rw [List.map_map]
  exact (List.map_eq_flatMap ..).symm
section
variable {m : Nat} {C : List Nat} {A : List (Nat → Bool)} (h : Elec m C A)
include h
theorem share_valid : VF (shareF m A) := ⟨shr_sm h, fr_cop h.a1⟩
omit h in
theorem sum_col {P : List (List DFraction)} (hP : Rows A.length P) {i : Nat} (hi : i < A.length) : F_spec_l01Sum (col P i) = some (outS (sumF zF (col P i))) ∧ F_impl_SumFractions (col P i) = some (outS (sumF zF (col P i))) := by
  have hl : (col P i).length ≤ 6 := by unfold col; rw [List.length_map]; exact hP.len
  exact ⟨spSum (col_valid hP hi) (by omega), imSum (col_valid hP hi) (by omega)⟩
theorem spPaid3 {P : List (List DFraction)} (hP : Rows A.length P) :
    F_spec_l05Paid_l3 (ele m C A) P ((ele m C A).fApprovals.length + 1) [] 0 = bif (List.range A.length).all (colOk m A P) then some ((List.range A.length).map (rest m A P), true) else some ([], false) := by
  have ha := h.a6
  rw [ele_A]
  have key : ∀ k i f, i + k = A.length → k < f → F_spec_l05Paid_l3 (ele m C A) P f ((List.range i).map (rest m A P)) (i : Int) = bif ((List.range A.length).drop i).all (colOk m A P) then some ((List.range A.length).map (rest m A P), true) else some ([], false) := by
    refine up (P := fun i f => F_spec_l05Paid_l3 (ele m C A) P f ((List.range i).map (rest m A P)) (i : Int) = bif ((List.range A.length).drop i).all (colOk m A P) then some ((List.range A.length).map (rest m A P), true) else some ([], false)) (fun f => ?_) (fun i f hi ih => ?_)
    · rw [F_spec_l05Paid_l3.eq_2, ele_A, dlt_f (by omega), List.drop_of_length_le (by simp)]; rfl
    · rw [F_spec_l05Paid_l3.eq_2, ele_A, dlt_t hi, cond_true, col_loop hP hi (F := F_spec_l05Paid_l4 P (i : Int)) (fun _ _ _ => rfl), Option.bind_some, (sum_col hP hi).1, Option.bind_some, List.drop_eq_getElem_cons (by simpa using hi), List.all_cons, List.getElem_range, spShare h, W_succ (n := A.length) hi (by unfold maxLen; omega)]
      have hcol : colOk m A P i = match sumF zF (col P i) with | some s => !decide (cmpF s (shareF m A) > 0) | none => false := rfl
      have hrest : rest m A P i = match sumF zF (col P i) with | some s => (res (subF (shareF m A) s)).1 | none => ⟨0, 0⟩ := rfl
      rw [hcol]
      cases q : sumF zF (col P i) with
      | none => rfl
      | some s =>
        rw [q] at hrest
        have hs := sumF_valid q zF_valid (col_valid hP hi)
        have e : DFraction.mk s.fNum s.fDen = s := rfl
        simp only [outS, Bool.not_true, cond_false, Option.bind_some]
        rw [e, spCmp hs.1 (shr_sm h), Option.bind_some, Option.bind_some]
        have hsh : fr (m : Int) A.length = shareF m A := rfl
        rw [hsh]
        cases q2 : decide (cmpF s (shareF m A) > 0)
        · rw [cond_false, spSub (share_valid h).1 hs.1, Option.bind_some, Option.bind_some]
          rw [List.range_succ, List.map_append, List.map_cons, List.map_nil, hrest] at ih
          have hl : ((List.range i).map (rest m A P)).length = i := by simp
          simp only at ih
          unfold res at ih ⊢
          by_cases q3 : inB (subF (shareF m A) s) = true
          · rw [if_pos q3] at ih ⊢
            simp only [Bool.not_true, cond_false, Bool.not_false, Bool.true_and]
            have e2 : DFraction.mk (subF (shareF m A) s).fNum (subF (shareF m A) s).fDen = subF (shareF m A) s := rfl
            rw [e2, app_ok (by rw [hl]; simp; omega), Option.bind_some]
            exact ih
          · rw [if_neg q3] at ih ⊢
            simp only [Bool.not_false, cond_true, Bool.true_and]
            rw [app_ok (by rw [hl]; simp; omega), Option.bind_some]
            exact ih
        · rfl
  exact key A.length 0 (A.length + 1) (by omega) (by omega)
theorem imPaid3 {P : List (List DFraction)} (hP : Rows A.length P) :
    F_impl_IsPaid_l3 (ele m C A) P ((ele m C A).fApprovals.length + 1) 0 = some ((List.range A.length).all (colOk m A P)) := by
  have ha := h.a6
  rw [ele_A]
  have := all_loopG (n := A.length) (F := F_impl_IsPaid_l3 (ele m C A) P) (colOk m A P) (good := some true) (bad := some false) (fun f => by
    rw [F_impl_IsPaid_l3.eq_2, ele_A, dlt_f (by omega)]; rfl) (fun i f hi => by
    rw [F_impl_IsPaid_l3.eq_2, ele_A, dlt_t hi, cond_true]
    unfold F_impl_column
    rw [col_loop hP hi (F := F_impl_column_l1 P (i : Int)) (fun _ _ _ => rfl), Option.bind_some, (sum_col hP hi).2, Option.bind_some, imShare h, W_succ (n := A.length) hi (by unfold maxLen; omega)]
    unfold colOk
    cases q : sumF zF (col P i) with
    | none => rfl
    | some s =>
      have hs := sumF_valid q zF_valid (col_valid hP hi)
      have e : DFraction.mk s.fNum s.fDen = s := rfl
      have hsh : fr (m : Int) A.length = shareF m A := rfl
      simp only [outS, Bool.not_true, cond_false, Option.bind_some]
      rw [e, imCmp hs.1 (shr_sm h), Option.bind_some, Option.bind_some, hsh]
      cases decide (cmpF s (shareF m A) > 0) <;> rfl) (m := A.length + 1) (by omega)
  rw [this]
  cases (List.range A.length).all (colOk m A P) <;> rfl
end
def paidOk (m : Nat) (C : List Nat) (A : List (Nat → Bool)) (os : List Nat) (P : List (List DFraction)) : Bool := decide (P.length = os.length) && (List.range P.length).all (rowC C A os P) && (List.range A.length).all (colOk m A P)
theorem spPaid {m : Nat} {C : List Nat} {A : List (Nat → Bool)} (he : Elec m C A) {os : List Nat} {P : List (List DFraction)} (ho : ∀ p ∈ os, p < C.length) (hn : os.length ≤ 6) (hO : ordOk (ele m C A) (os.map Int.ofNat) = true) :
    F_spec_l05Paid (ele m C A) (os.map Int.ofNat) P = some (if paidOk m C A os P = true then ((List.range A.length).map (rest m A P), true) else ([], false)) := by
  unfold F_spec_l05Paid paidOk
  rw [spOrder _ _ (by rw [List.length_map]; unfold maxLen; omega), hO, List.length_map]
  simp only [Bool.not_true, cond_false, Option.bind_some]
  by_cases q : P.length = os.length
  · rw [q, bne_self_eq_false, cond_false, ← q, decide_eq_true rfl, Bool.true_and, spPaid1 he ho hn q]
    cases q1 : (List.range P.length).all (rowC C A os P)
    · rfl
    · rw [cond_true, Option.bind_some]
      simp only [sumK]
      rw [spPaid3 he (rows_of hn q q1)]
      cases (List.range A.length).all (colOk m A P) <;> rfl
  · rw [bne_t (by omega), decide_eq_false q]
    rfl
theorem imPaid4 {m : Nat} {C : List Nat} {A : List (Nat → Bool)} (he : Elec m C A) {os : List Nat} {P : List (List DFraction)} (ho : ∀ p ∈ os, p < C.length) (hn : os.length ≤ 6) (hO : F_impl_isOrder (ele m C A) (os.map Int.ofNat) = some true) :
    F_impl_IsPaid (ele m C A) (os.map Int.ofNat) P = some (paidOk m C A os P) := by
  unfold F_impl_IsPaid paidOk
  rw [hO, List.length_map]
  simp only [Bool.not_true, cond_false, Option.bind_some]
  by_cases q : P.length = os.length
  · rw [q, bne_self_eq_false, cond_false, ← q, decide_eq_true rfl, Bool.true_and, imPaid1 he ho hn q]
    cases q1 : (List.range P.length).all (rowC C A os P)
    · rfl
    · rw [cond_true, Option.bind_some]
      simp only [sumK]
      rw [imPaid3 he (rows_of hn q q1)]
      rfl
  · rw [bne_t (by omega), decide_eq_false q]
    rfl
theorem eqIsPaid (e : DElection) (O : List Int) (P : List (List DFraction)) (h : smEl e) (hO : O.length ≤ maxLen) : ∃ r, F_spec_IsPaid e O P = some r ∧ F_impl_IsPaid e O P = some r := by
  have hi := imOrder e O hO h
  unfold F_spec_IsPaid
  rw [spElect e h]
  simp only [Option.bind_some]
  cases q : elOk e
  · refine ⟨false, rfl, ?_⟩
    unfold F_impl_IsPaid
    rw [hi, q, Bool.and_false]
    rfl
  · cases q2 : ordOk e O
    · refine ⟨false, ?_, ?_⟩
      · unfold F_spec_l05Paid
        rw [spOrder e O hO, q2]
        rfl
      · unfold F_impl_IsPaid
        rw [hi, q2, Bool.false_and]
        rfl
    · obtain ⟨m, C, A, rfl, he⟩ := elect_nat q
      obtain ⟨os, rfl, ho, -, hn⟩ := order_nat he q2
      rw [q, q2] at hi
      rw [spPaid he ho hn q2, imPaid4 he ho hn hi]
      refine ⟨paidOk m C A os P, ?_, rfl⟩
      cases paidOk m C A os P <;> rfl
/-! stable payments -/
/-- the sum of what supporters have left -/
def leftS (m : Nat) (A : List (Nat → Bool)) (P : List (List DFraction)) (p : Nat) : Option DFraction :=
  if ((sup A p).map fun v => rest m A P v.toNat).all vF = true then sumF zF ((sup A p).map fun v => rest m A P v.toNat) else none
def stab (m : Nat) (C : List Nat) (A : List (Nat → Bool)) (os : List Nat) (P : List (List DFraction)) (p : Nat) : Bool :=
  os.contains p || match leftS m A P p with | none => false | some s => !decide (cmpF s ⟨(C[p]! : Int), 1⟩ ≥ 0)
theorem whole_sm {c : Nat} (hc : c ≤ 60) : Sm ⟨(c : Int), 1⟩ := ⟨by simp only; omega, by simp only; omega, by simp only; omega, by simp only; omega⟩
section
variable {m : Nat} {C : List Nat} {A : List (Nat → Bool)} (h : Elec m C A)
include h
theorem spLeft {P : List (List DFraction)} {p : Nat} :
    F_spec_l05Left ((List.range A.length).map (rest m A P)) (sup A p) = some (outS (leftS m A P p)) := by
  have hk : (sup A p).length ≤ 6 := kk6 h
  unfold F_spec_l05Left
  have key : ∀ k i f, i + k = (sup A p).length → k < f → ((((sup A p).take i).map fun v => rest m A P v.toNat).all vF = true) → F_spec_l05Left_l1 (sup A p) ((List.range A.length).map (rest m A P)) f (((sup A p).take i).map fun v => rest m A P v.toNat) (i : Int) = some (outS (leftS m A P p)) := by
    refine up (P := fun i f => ((((sup A p).take i).map fun v => rest m A P v.toNat).all vF = true) → F_spec_l05Left_l1 (sup A p) ((List.range A.length).map (rest m A P)) f (((sup A p).take i).map fun v => rest m A P v.toNat) (i : Int) = some (outS (leftS m A P p))) (fun f hv => ?_) (fun i f hi ih hv => ?_)
    · rw [List.take_length] at hv ⊢
      rw [F_spec_l05Left_l1.eq_2, dlt_f (by omega), cond_false, spSum (fun f hf => vF_iff.1 (List.all_eq_true.1 hv f hf)) (by rw [List.length_map]; omega), Option.bind_some]
      unfold leftS
      rw [if_pos hv]
    · obtain ⟨j, ej, hj, -⟩ := sup_mem (List.getElem_mem hi)
      have hidx : ∀ {β : Type} (K : DFraction → Option β), idx ((List.range A.length).map (rest m A P)) (j : Int) K = K (rest m A P j) := fun K => idx_tab hj
      rw [← List.take_append_getElem hi, List.map_append, List.map_cons, List.map_nil, ej, Int.toNat_natCast] at ih
      rw [F_spec_l05Left_l1.eq_2, dlt_t hi, cond_true, idx_nat hi, ej, hidx, spOkF, Option.bind_some, W_succ hi (by unfold maxLen; omega)]
      cases q : vF (rest m A P j)
      · rw [Bool.not_false, cond_true]
        unfold leftS
        rw [if_neg]
        · rfl
        · intro hh
          have := List.all_eq_true.1 hh (rest m A P j) (List.mem_map.2 ⟨(j : Int), by rw [← ej]; exact List.getElem_mem hi, by rw [Int.toNat_natCast]⟩)
          rw [q] at this
          cases this
      · rw [Bool.not_true, cond_false, idx_nat hi, ej, hidx, app_ok (by simp; omega)]
        exact ih (by rw [List.all_append, hv]; simp [q])
  exact key (sup A p).length 0 ((sup A p).length + 1) (by omega) (by omega) rfl
theorem imLeft {P : List (List DFraction)} (hP : Rows A.length P) (hc : (List.range A.length).all (colOk m A P) = true) {p : Nat} :
    F_impl_IsStable_l2 (sup A p) P (ele m C A) ((sup A p).length + 1) [] 0 = some (if ((sup A p).map fun v => rest m A P v.toNat).all vF = true then Sum.inr ((sup A p).map fun v => rest m A P v.toNat) else Sum.inl false) := by
  have hk : (sup A p).length ≤ 6 := kk6 h
  have key : ∀ k i f, i + k = (sup A p).length → k < f → ((((sup A p).take i).map fun v => rest m A P v.toNat).all vF = true) → F_impl_IsStable_l2 (sup A p) P (ele m C A) f (((sup A p).take i).map fun v => rest m A P v.toNat) (i : Int) = some (if ((sup A p).map fun v => rest m A P v.toNat).all vF = true then Sum.inr ((sup A p).map fun v => rest m A P v.toNat) else Sum.inl false) := by
    refine up (P := fun i f => ((((sup A p).take i).map fun v => rest m A P v.toNat).all vF = true) → F_impl_IsStable_l2 (sup A p) P (ele m C A) f (((sup A p).take i).map fun v => rest m A P v.toNat) (i : Int) = some (if ((sup A p).map fun v => rest m A P v.toNat).all vF = true then Sum.inr ((sup A p).map fun v => rest m A P v.toNat) else Sum.inl false)) (fun f hv => ?_) (fun i f hi ih hv => ?_)
    · rw [List.take_length] at hv ⊢
      rw [F_impl_IsStable_l2.eq_2, dlt_f (by omega), cond_false, if_pos hv]
    · obtain ⟨j, ej, hj, -⟩ := sup_mem (List.getElem_mem hi)
      rw [← List.take_append_getElem hi, List.map_append, List.map_cons, List.map_nil, ej, Int.toNat_natCast] at ih
      rw [F_impl_IsStable_l2.eq_2, dlt_t hi, cond_true, idx_nat hi, ej]
      unfold F_impl_column
      rw [col_loop hP hj (F := F_impl_column_l1 P (j : Int)) (fun _ _ _ => rfl), Option.bind_some, (sum_col hP hj).2, Option.bind_some, imShare h, W_succ hi (by unfold maxLen; omega)]
      have hcj := List.all_eq_true.1 hc j (List.mem_range.2 hj)
      have hrest : rest m A P j = match sumF zF (col P j) with | some s => (res (subF (shareF m A) s)).1 | none => ⟨0, 0⟩ := rfl
      unfold colOk at hcj
      cases q : sumF zF (col P j) with
      | none => rw [q] at hcj; cases hcj
      | some s =>
        rw [q] at hrest
        have hs := sumF_valid q zF_valid (col_valid hP hj)
        have e : DFraction.mk s.fNum s.fDen = s := rfl
        have hsh : fr (m : Int) A.length = shareF m A := rfl
        simp only [outS, Option.bind_some]
        rw [e, hsh, imSub (share_valid h) hs, Option.bind_some]
        obtain ⟨n, d, hd, e2⟩ := subF_fr (share_valid h).1 hs.1
        simp only at hrest
        by_cases q3 : inB (subF (shareF m A) s) = true
        · have er : res (subF (shareF m A) s) = (subF (shareF m A) s, true) := if_pos q3
          rw [er] at hrest ⊢
          have hvr : vF (rest m A P j) = true := by rw [hrest, e2, vF_fr hd, ← e2]; exact q3
          simp only [Option.bind_some, Bool.not_true, cond_false] at hrest ⊢
          have e3 : DFraction.mk (subF (shareF m A) s).fNum (subF (shareF m A) s).fDen = subF (shareF m A) s := rfl
          rw [e3, ← hrest, app_ok (by simp; omega)]
          exact ih (by rw [List.all_append, hv]; simp [hvr])
        · have er : res (subF (shareF m A) s) = (⟨0, 0⟩, false) := if_neg q3
          rw [er] at hrest ⊢
          rw [if_neg]
          · rfl
          · intro hh
            have := List.all_eq_true.1 hh (rest m A P j) (List.mem_map.2 ⟨(j : Int), by rw [← ej]; exact List.getElem_mem hi, by rw [Int.toNat_natCast]⟩)
            rw [hrest] at this
            cases this
  exact key (sup A p).length 0 ((sup A p).length + 1) (by omega) (by omega) rfl
theorem spStable1 {os : List Nat} (hn : os.length ≤ 6) {P : List (List DFraction)} {b : Bool} :
    F_spec_IsStable_l1 (ele m C A) (os.map Int.ofNat) ((List.range A.length).map (rest m A P), b) ((ele m C A).fCosts.length + 1) 0 = some ((List.range C.length).all (stab m C A os P)) := by
  have hc := h.c6
  have hol : (os.map Int.ofNat).length ≤ maxLen := by rw [List.length_map]; unfold maxLen; omega
  rw [ele_C]
  have := all_loopG (n := C.length) (F := F_spec_IsStable_l1 (ele m C A) (os.map Int.ofNat) ((List.range A.length).map (rest m A P), b)) (stab m C A os P) (good := some true) (bad := some false) (fun f => by
    rw [F_spec_IsStable_l1.eq_2, ele_C, dlt_f (by omega)]; rfl) (fun p f hp => by
    rw [F_spec_IsStable_l1.eq_2, ele_C, dlt_t hp, cond_true, spHas _ _ hol, has_map, Option.bind_some, spSup h hp, Option.bind_some, spLeft h, Option.bind_some, W_succ (n := C.length) hp (by unfold maxLen; omega), idx_C hp]
    unfold stab
    cases os.contains p
    · rw [cond_false, Bool.false_or]
      cases q : leftS m A P p with
      | none => rfl
      | some s =>
        have hs : Sm s := by
          unfold leftS at q
          split at q
          · rename_i hv
            exact (sumF_valid q zF_valid fun f hf => vF_iff.1 (List.all_eq_true.1 hv f hf)).1
          · cases q
        have hcp := h.cost C[p] (List.getElem_mem hp)
        have e : DFraction.mk s.fNum s.fDen = s := rfl
        simp only [outS, Bool.not_true, cond_false, F_spec_l05Whole, Option.bind_some]
        rw [e, spCmp hs (whole_sm hcp.2), Option.bind_some, Option.bind_some, getElem!_pos C p hp]
        cases decide (cmpF s ⟨(C[p] : Int), 1⟩ ≥ 0) <;> rfl
    · rfl) (m := C.length + 1) (by omega)
  rw [this]
  cases (List.range C.length).all (stab m C A os P) <;> rfl
theorem imStable1 {os : List Nat} (hn : os.length ≤ 6) {P : List (List DFraction)} (hP : Rows A.length P) (hcl : (List.range A.length).all (colOk m A P) = true) :
    F_impl_IsStable_l1 (ele m C A) (os.map Int.ofNat) P ((ele m C A).fCosts.length + 1) 0 = some ((List.range C.length).all (stab m C A os P)) := by
  have hc := h.c6
  have hol : (os.map Int.ofNat).length ≤ maxLen := by rw [List.length_map]; unfold maxLen; omega
  rw [ele_C]
  have := all_loopG (n := C.length) (F := F_impl_IsStable_l1 (ele m C A) (os.map Int.ofNat) P) (stab m C A os P) (good := some true) (bad := some false) (fun f => by
    rw [F_impl_IsStable_l1.eq_2, ele_C, dlt_f (by omega)]; rfl) (fun p f hp => by
    have hk : (sup A p).length ≤ 6 := kk6 h
    rw [F_impl_IsStable_l1.eq_2, ele_C, dlt_t hp, cond_true, imContains _ _ hol, has_map, Option.bind_some, imSup h hp, Option.bind_some, imLeft h hP hcl, Option.bind_some, W_succ (n := C.length) hp (by unfold maxLen; omega)]
    unfold stab leftS
    cases os.contains p
    · rw [cond_false, Bool.false_or]
      by_cases hv : ((sup A p).map fun v => rest m A P v.toNat).all vF = true
      · rw [if_pos hv, if_pos hv]
        simp only [sumK]
        have hvv : ∀ f ∈ (sup A p).map fun v => rest m A P v.toNat, VF f := fun f hf => vF_iff.1 (List.all_eq_true.1 hv f hf)
        rw [imSum hvv (by rw [List.length_map]; omega), Option.bind_some]
        cases q : sumF zF ((sup A p).map fun v => rest m A P v.toNat) with
        | none => rfl
        | some s =>
          have hs := (sumF_valid q zF_valid hvv).1
          have hcp := h.cost C[p] (List.getElem_mem hp)
          have e : DFraction.mk s.fNum s.fDen = s := rfl
          simp only [outS, Bool.not_true, cond_false]
          rw [idx_C hp]
          simp only [F_impl_whole, Option.bind_some]
          rw [e, imCmp hs (whole_sm hcp.2), Option.bind_some, Option.bind_some, getElem!_pos C p hp]
          cases decide (cmpF s ⟨(C[p] : Int), 1⟩ ≥ 0) <;> rfl
      · rw [if_neg hv, if_neg hv]
        rfl
    · rfl) (m := C.length + 1) (by omega)
  rw [this]
  cases (List.range C.length).all (stab m C A os P) <;> rfl
end
theorem eqStable (e : DElection) (O : List Int) (P : List (List DFraction)) (h : smEl e) (hO : O.length ≤ maxLen) : ∃ r, F_spec_IsStable e O P = some r ∧ F_impl_IsStable e O P = some r := by
  have hi := imOrder e O hO h
  unfold F_spec_IsStable F_impl_IsStable
  rw [spElect e h]
  simp only [Option.bind_some]
  cases q : elOk e
  · refine ⟨false, rfl, ?_⟩
    unfold F_impl_IsPaid
    rw [hi, q, Bool.and_false]
    rfl
  · cases q2 : ordOk e O
    · refine ⟨false, ?_, ?_⟩
      · unfold F_spec_l05Paid
        rw [spOrder e O hO, q2]
        rfl
      · unfold F_impl_IsPaid
        rw [hi, q2, Bool.false_and]
        rfl
    · obtain ⟨m, C, A, rfl, he⟩ := elect_nat q
      obtain ⟨os, rfl, ho, -, hn⟩ := order_nat he q2
      rw [q, q2] at hi
      rw [spPaid he ho hn q2, imPaid4 he ho hn hi]
      cases q3 : paidOk m C A os P
      · exact ⟨false, rfl, rfl⟩
      · unfold paidOk at q3
        rw [Bool.and_eq_true, Bool.and_eq_true, decide_eq_true_iff] at q3
        rw [if_pos rfl]
        simp only [Bool.not_true, cond_false, Option.bind_some]
        rw [spStable1 he hn, imStable1 he hn (rows_of hn q3.1.1 q3.1.2) q3.2]
        exact ⟨_, rfl, rfl⟩
end Go.FX
