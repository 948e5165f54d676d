/- The pure part: what the functions compute, in plain Lean, with no program in sight; no condition. -/
import Derived.Test.YtmeeomkjjnlaoaaRuSets1
namespace Go.FX
open Go Go.GL Go.RowKit
/-! all sets, one behind another -/
def allF : Nat → Nat → List (List Int)
  | 0, _ => []
  | k + 1, a => ([(a : Int)] :: (allF k (a + 1)).map ((a : Int) :: ·)) ++ allF k (a + 1)
def setsE (n : Nat) : List (List Int) := allF n 0
def nextB (n : Nat) : List (List Int) → Bool
  | [] => true
  | [x] => decide (F_spec_l05Next x (n : Int) = some ([], false))
  | x :: y :: l => decide (F_spec_l05Next x (n : Int) = some (y, true)) && nextB n (y :: l)
def chkB (n : Nat) : Bool := nextB n ([] :: setsE n) && (decide ((setsE n).Pairwise fun x y => cmpL x y < 0) && (setsE n).isPerm ((List.range (2 ^ n - 1)).map (setB n)))
set_option maxRecDepth 100000 in
theorem chk_all : ∀ k : Fin 7, chkB k.val = true := by decide +kernel
theorem lex_ext : ∀ {l m : List (List Int)}, l.Pairwise (fun a b => cmpL a b < 0) → m.Pairwise (fun a b => cmpL a b < 0) → (∀ x, x ∈ l ↔ x ∈ m) → l = m := by
  have asym : ∀ {a b : List Int}, cmpL a b < 0 → ¬ cmpL b a < 0 := fun {a b} h1 h2 => by have := cmpL_swap a b; omega
  have irr : ∀ {a : List Int}, ¬ cmpL a a < 0 := fun {a} h => by rw [cmpL_self] at h; omega
  intro l
  induction l with
  | nil =>
    intro m _ _ h
    cases m with
    | nil => rfl
    | cons b m => exact absurd ((h b).2 (List.mem_cons_self ..)) (by simp)
  | cons a l ih =>
    intro m hl hm h
    cases m with
    | nil => exact absurd ((h a).1 (List.mem_cons_self ..)) (by simp)
    | cons b m =>
      rw [List.pairwise_cons] at hl hm
      have hab : a = b := by
        rcases List.mem_cons.1 ((h a).1 (List.mem_cons_self ..)) with e | h1
        · exact e
        · rcases List.mem_cons.1 ((h b).2 (List.mem_cons_self ..)) with e | h2
          · exact e.symm
          · exact absurd (hm.1 a h1) (asym (hl.1 b h2))
      subst hab
      rw [ih hl.2 hm.2 fun x => ?_]
      constructor
      · intro hx
        rcases List.mem_cons.1 ((h x).1 (List.mem_cons_of_mem _ hx)) with e | h1
        · have := hl.1 x hx; rw [e] at this; exact absurd this irr
        · exact h1
      · intro hx
        rcases List.mem_cons.1 ((h x).2 (List.mem_cons_of_mem _ hx)) with e | h1
        · have := hm.1 x hx; rw [e] at this; exact absurd this irr
        · exact h1
theorem chk_at {n : Nat} (hn : n ≤ 6) : nextB n ([] :: setsE n) = true ∧ (setsE n).Pairwise (fun x y => cmpL x y < 0) ∧ (setsE n).Perm ((List.range (2 ^ n - 1)).map (setB n)) := by
  have := chk_all ⟨n, by omega⟩
  unfold chkB at this
  rw [Bool.and_eq_true, Bool.and_eq_true, decide_eq_true_eq] at this
  exact ⟨this.1, this.2.1, List.isPerm_iff.1 this.2.2⟩
theorem imSetsE {n : Nat} (hn : n ≤ 6) : F_impl_allSets (n : Int) = some (setsE n) := by
  obtain ⟨r, e1, e2, e3⟩ := imAllSets hn
  obtain ⟨-, c2, c3⟩ := chk_at hn
  rw [e1, lex_ext e3 c2 fun x => by rw [e2.mem_iff, c3.mem_iff]]
theorem setsE_mem {n : Nat} (hn : n ≤ 6) {x : List Int} (h : x ∈ setsE n) : ∃ p : Nat → Bool, x = lst n p := by
  obtain ⟨p, e, -⟩ := sets_mem ((chk_at hn).2.2.mem_iff.1 h)
  exact ⟨p, e⟩
theorem setsE_len {n : Nat} (hn : n ≤ 6) : (setsE n).length ≤ 63 := by
  rw [(chk_at hn).2.2.length_eq, List.length_map, List.length_range]
  have : 2 ^ n ≤ 64 := Nat.pow_le_pow_right (n := 2) (by decide) hn
  omega
/-! whether a set is unjustified for a group and wishes -/
def appr (e : DElection) (v : Int) (w : List Int) : Int := (F_impl_Election_approved e v w).getD 0
def costOf (e : DElection) (w : List Int) : Int := (F_impl_Election_cost e w).getD 0
def okG (e : DElection) (s w : List Int) (v : Int) : Bool := !(decide (appr e v w < (w.length : Int)) || decide (appr e v s ≥ (w.length : Int)))
def unj (e : DElection) (s g w : List Int) : Bool := decide (IntKind.i64.wrap (costOf e w * (e.fApprovals.length : Int)) ≤ IntKind.i64.wrap (e.fMoney * (g.length : Int))) && g.all (okG e s w)
section
variable {m : Nat} {C : List Nat} {A : List (Nat → Bool)} (h : Elec m C A)
include h
theorem imAppr {S : Nat → Bool} {i : Nat} (hi : i < A.length) : F_impl_Election_approved (ele m C A) (i : Int) (lst C.length S) = some ((both C.length A[i] S : Nat) : Int) := by
  have hc := h.c6
  have hlen : ((ele m C A).fApprovals).length = A.length := by simp [ele]
  unfold F_impl_Election_approved
  rw [idx_nat (by rw [hlen]; exact hi)]
  have e1 : (ele m C A).fApprovals[i]'(by rw [hlen]; exact hi) = lst C.length A[i] := by simp [ele]
  rw [e1, ← both_lst']
  have hP : (lst C.length A[i]).length ≤ maxLen := Nat.le_trans lst_len (by unfold maxLen; omega)
  refine cnt_list (F := F_impl_Election_approved_l1 (lst C.length A[i]) (lst C.length S)) _ (fun n => some (n : Int)) hP (fun f c => ?_) (fun f c j hj hcj => ?_)
  · rw [F_impl_Election_approved_l1.eq_2, dlt_f (by omega), cond_false]
  · rw [F_impl_Election_approved_l1.eq_2, dlt_t hj, cond_true, idx_nat hj, imContains _ _ (Nat.le_trans lst_len (by unfold maxLen; omega)), Option.bind_some]
theorem imAppr' {S : Nat → Bool} {i : Nat} (hi : i < A.length) : F_impl_Election_approved (ele m C A) (i : Int) (lst C.length S) = some (appr (ele m C A) (i : Int) (lst C.length S)) := by
  unfold appr
  rw [imAppr h hi]; rfl
theorem idx_apprs {β : Type} {S : Nat → Bool} {i : Nat} (hi : i < A.length) (K : Int → Option β) : idx (apprs C.length A S) (i : Int) K = K (appr (ele m C A) (i : Int) (lst C.length S)) := by
  have : i < (apprs C.length A S).length := by unfold apprs; rw [List.length_map]; exact hi
  rw [idx_nat this]
  unfold appr
  rw [imAppr h hi]
  congr 1
  simp [apprs]
theorem costs_same {S : Nat → Bool} : ∀ k i f, i + k = (lst C.length S).length → k < f → ∀ x : Int, ∃ c, F_spec_l05Cost_l1 (lst C.length S) (ele m C A) f x (i : Int) = some c ∧ F_impl_Election_cost_l1 (lst C.length S) (ele m C A) f x (i : Int) = some c := by
  have hc := h.c6
  have hl := lst_len (n := C.length) (p := S)
  refine up (P := fun i f => ∀ x : Int, ∃ c, F_spec_l05Cost_l1 (lst C.length S) (ele m C A) f x (i : Int) = some c ∧ F_impl_Election_cost_l1 (lst C.length S) (ele m C A) f x (i : Int) = some c) (fun f x => ?_) (fun i f hi ih x => ?_)
  · rw [F_spec_l05Cost_l1.eq_2, F_impl_Election_cost_l1.eq_2, dlt_f (by omega)]
    exact ⟨x, rfl, rfl⟩
  · obtain ⟨a, e, ha, -⟩ := lst_get hi
    have hC : a < ((ele m C A).fCosts).length := by simp [ele]; exact ha
    rw [F_spec_l05Cost_l1.eq_2, F_impl_Election_cost_l1.eq_2, dlt_t hi, cond_true, cond_true, idx_nat hi, idx_nat hi, e, idx_nat hC, idx_nat hC, W_succ hi (by unfold maxLen; omega)]
    exact ih _
theorem both_cost (S : Nat → Bool) : F_spec_l05Cost (ele m C A) (lst C.length S) = some (costOf (ele m C A) (lst C.length S)) ∧ F_impl_Election_cost (ele m C A) (lst C.length S) = some (costOf (ele m C A) (lst C.length S)) := by
  obtain ⟨c, e1, e2⟩ := costs_same h (S := S) (lst C.length S).length 0 ((lst C.length S).length + 1) (by omega) (by omega) 0
  have e3 : F_impl_Election_cost (ele m C A) (lst C.length S) = some c := e2
  have e4 : F_spec_l05Cost (ele m C A) (lst C.length S) = some c := e1
  unfold costOf
  rw [e3, e4]
  exact ⟨rfl, rfl⟩
theorem imUnj (S0 G S : Nat → Bool) : F_impl_Election_isUnjustified (ele m C A) (lst C.length S0) (lst A.length G) (lst C.length S) = some (unj (ele m C A) (lst C.length S0) (lst A.length G) (lst C.length S)) := by
  have ha := h.a6
  have hl := lst_len (n := A.length) (p := G)
  have key := up (n := (lst A.length G).length) (P := fun i f => F_impl_Election_isUnjustified_l1 (lst A.length G) (ele m C A) (lst C.length S) (lst C.length S0) f (i : Int) = some (bif ((lst A.length G).drop i).all (okG (ele m C A) (lst C.length S0) (lst C.length S)) then Sum.inr () else Sum.inl false)) (fun f => ?_) (fun i f hi ih => ?_) (lst A.length G).length 0 ((lst A.length G).length + 1) (by omega) (by omega)
  · rw [show ((0 : Nat) : Int) = 0 from rfl, List.drop_zero] at key
    unfold F_impl_Election_isUnjustified unj
    rw [key, Option.bind_some, (both_cost h S).2]
    cases (lst A.length G).all (okG (ele m C A) (lst C.length S0) (lst C.length S))
    · rw [Bool.and_false]; rfl
    · rw [Bool.and_true]; rfl
  · rw [F_impl_Election_isUnjustified_l1.eq_2, dlt_f (by omega), List.drop_length]; rfl
  · obtain ⟨a, e, ha2, -⟩ := lst_get hi
    rw [F_impl_Election_isUnjustified_l1.eq_2, dlt_t hi, cond_true, idx_nat hi, e, imAppr' h ha2, imAppr' h ha2, Option.bind_some, Option.bind_some, W_succ hi (by unfold maxLen; omega), ih, List.drop_eq_getElem_cons hi, List.all_cons, e]
    unfold okG
    cases decide (appr (ele m C A) (a : Int) (lst C.length S) < ((lst C.length S).length : Int)) <;> cases decide (appr (ele m C A) (a : Int) (lst C.length S0) ≥ ((lst C.length S).length : Int)) <;> rfl
theorem spUnj (S0 G S : Nat → Bool) : F_spec_l05Wishes (ele m C A) (lst C.length S0) (lst A.length G) (lst C.length S) = some (unj (ele m C A) (lst C.length S0) (lst A.length G) (lst C.length S)) := by
  have ha := h.a6
  have hl := lst_len (n := A.length) (p := G)
  have key := up (n := (lst A.length G).length) (P := fun i f => F_spec_l05Wishes_l1 (lst A.length G) (apprs C.length A S) (lst C.length S) (apprs C.length A S0) f (i : Int) = some (((lst A.length G).drop i).all (okG (ele m C A) (lst C.length S0) (lst C.length S)))) (fun f => ?_) (fun i f hi ih => ?_) (lst A.length G).length 0 ((lst A.length G).length + 1) (by omega) (by omega)
  · rw [show ((0 : Nat) : Int) = 0 from rfl, List.drop_zero] at key
    unfold F_spec_l05Wishes unj
    rw [(both_cost h S).1, Option.bind_some, spApproved h, spApproved h, Option.bind_some, Option.bind_some, key]
    by_cases hd : IntKind.i64.wrap (costOf (ele m C A) (lst C.length S) * ((ele m C A).fApprovals.length : Int)) ≤ IntKind.i64.wrap ((ele m C A).fMoney * ((lst A.length G).length : Int))
    · rw [decide_eq_true hd, decide_eq_false (by omega), Bool.true_and]; rfl
    · rw [decide_eq_false hd, decide_eq_true (by omega), Bool.false_and]; rfl
  · rw [F_spec_l05Wishes_l1.eq_2, dlt_f (by omega), List.drop_length]; rfl
  · obtain ⟨a, e, ha2, -⟩ := lst_get hi
    rw [F_spec_l05Wishes_l1.eq_2, dlt_t hi, cond_true, idx_nat hi, e, idx_apprs h ha2, idx_nat hi, e, idx_apprs h ha2, W_succ hi (by unfold maxLen; omega), ih, List.drop_eq_getElem_cons hi, List.all_cons, e]
    unfold okG
    cases decide (appr (ele m C A) (a : Int) (lst C.length S) < ((lst C.length S).length : Int)) <;> cases decide (appr (ele m C A) (a : Int) (lst C.length S0) ≥ ((lst C.length S).length : Int)) <;> rfl
end
/-- the first wishes of a group -/
def pickW (e : DElection) (s g : List Int) (l : List (List Int)) : Sum (List Int × List Int × Bool) Unit := match l.find? (unj e s g) with | some w => Sum.inl (g, w, true) | none => Sum.inr ()
def pickG (e : DElection) (s : List Int) (E : List (List Int)) : List (List Int) → List Int × List Int × Bool
  | [] => ([], [], false)
  | g :: l => match pickW e s g E with | .inl r => r | .inr _ => pickG e s E l
theorem pickW_cons {e : DElection} {s g x : List Int} {l : List (List Int)} : pickW e s g (x :: l) = bif unj e s g x then Sum.inl (g, x, true) else pickW e s g l := by
  unfold pickW
  rw [List.find?_cons]
  cases unj e s g x <;> rfl
theorem sp_first {n : Nat} (hn1 : 1 ≤ n) (hn : n ≤ 6) : ∃ x l, setsE n = x :: l ∧ F_spec_l05Next [] (n : Int) = some (x, true) ∧ nextB n (x :: l) = true := by
  obtain ⟨c1, -, -⟩ := chk_at hn
  obtain ⟨k, rfl⟩ : ∃ k, n = k + 1 := ⟨n - 1, by omega⟩
  have hs : setsE (k + 1) = [((0 : Nat) : Int)] :: ((allF k 1).map (((0 : Nat) : Int) :: ·) ++ allF k 1) := rfl
  refine ⟨_, _, hs, ?_, ?_⟩
  · rw [hs] at c1
    unfold nextB at c1
    rw [Bool.and_eq_true] at c1
    exact of_decide_eq_true c1.1
  · rw [hs] at c1
    unfold nextB at c1
    rw [Bool.and_eq_true] at c1
    exact c1.2
theorem pickG_cons {e : DElection} {s g : List Int} {E l : List (List Int)} : pickG e s E (g :: l) = match pickW e s g E with | .inl r => r | .inr _ => pickG e s E l := rfl
section
variable {m : Nat} {C : List Nat} {A : List (Nat → Bool)} (h : Elec m C A)
include h
theorem im_w (S0 G : Nat → Bool) : F_impl_UnjustifiedGroup_l2 (setsE C.length) (ele m C A) (lst C.length S0) (lst A.length G) ((setsE C.length).length + 1) 0 = some (pickW (ele m C A) (lst C.length S0) (lst A.length G) (setsE C.length)) := by
  have hl := setsE_len h.c6
  have key := up (n := (setsE C.length).length) (P := fun i f => F_impl_UnjustifiedGroup_l2 (setsE C.length) (ele m C A) (lst C.length S0) (lst A.length G) f (i : Int) = some (pickW (ele m C A) (lst C.length S0) (lst A.length G) ((setsE C.length).drop i))) (fun f => ?_) (fun i f hi ih => ?_) (setsE C.length).length 0 ((setsE C.length).length + 1) (by omega) (by omega)
  · exact key
  · rw [F_impl_UnjustifiedGroup_l2.eq_2, dlt_f (by omega), List.drop_length]; rfl
  · obtain ⟨S, e⟩ := setsE_mem h.c6 (List.getElem_mem hi)
    rw [F_impl_UnjustifiedGroup_l2.eq_2, dlt_t hi, cond_true, idx_nat hi, List.drop_eq_getElem_cons hi, pickW_cons, e, imUnj h, Option.bind_some, W_succ hi (by unfold maxLen; omega), ih]
    cases unj (ele m C A) (lst C.length S0) (lst A.length G) (lst C.length S) <;> rfl
theorem im_g (S0 : Nat → Bool) : F_impl_UnjustifiedGroup_l1 (setsE A.length) (ele m C A) (lst C.length S0) ((setsE A.length).length + 1) 0 = some (pickG (ele m C A) (lst C.length S0) (setsE C.length) (setsE A.length)) := by
  have hl := setsE_len h.a6
  have e2 : ((ele m C A).fCosts).length = C.length := by simp [ele]
  have key := up (n := (setsE A.length).length) (P := fun i f => F_impl_UnjustifiedGroup_l1 (setsE A.length) (ele m C A) (lst C.length S0) f (i : Int) = some (pickG (ele m C A) (lst C.length S0) (setsE C.length) ((setsE A.length).drop i))) (fun f => ?_) (fun i f hi ih => ?_) (setsE A.length).length 0 ((setsE A.length).length + 1) (by omega) (by omega)
  · exact key
  · rw [F_impl_UnjustifiedGroup_l1.eq_2, dlt_f (by omega), List.drop_length]; rfl
  · obtain ⟨G, e⟩ := setsE_mem h.a6 (List.getElem_mem hi)
    rw [F_impl_UnjustifiedGroup_l1.eq_2, dlt_t hi, cond_true, idx_nat hi, List.drop_eq_getElem_cons hi, e, e2, imSetsE h.c6, Option.bind_some, im_w h, Option.bind_some, W_succ hi (by unfold maxLen; omega), ih]
    rw [pickG_cons]
    cases pickW (ele m C A) (lst C.length S0) (lst A.length G) (setsE C.length) <;> rfl
theorem sp_w (S0 G : Nat → Bool) : ∀ (l : List (List Int)) (x : List Int) (f : Nat), nextB C.length (x :: l) = true → (∀ y ∈ x :: l, ∃ S : Nat → Bool, y = lst C.length S) → l.length + 1 < f →
    F_spec_UnjustifiedGroup_l2 (ele m C A) (lst C.length S0) (lst A.length G) f x true = some (pickW (ele m C A) (lst C.length S0) (lst A.length G) (x :: l)) := by
  have e2 : ((ele m C A).fCosts).length = C.length := by simp [ele]
  intro l
  induction l with
  | nil =>
    intro x f hn hm hf
    obtain ⟨f, rfl⟩ : ∃ g, f = g + 1 + 1 := ⟨f - 2, by simp at hf; omega⟩
    obtain ⟨S, rfl⟩ := hm x (List.mem_cons_self ..)
    unfold nextB at hn
    rw [F_spec_UnjustifiedGroup_l2.eq_2, cond_true, spUnj h, Option.bind_some, e2, of_decide_eq_true hn, Option.bind_some, F_spec_UnjustifiedGroup_l2.eq_2, cond_false, pickW_cons (x := lst C.length S)]
    cases unj (ele m C A) (lst C.length S0) (lst A.length G) (lst C.length S) <;> rfl
  | cons y l ih =>
    intro x f hn hm hf
    obtain ⟨f, rfl⟩ : ∃ g, f = g + 1 := ⟨f - 1, by omega⟩
    obtain ⟨S, rfl⟩ := hm x (List.mem_cons_self ..)
    unfold nextB at hn
    rw [Bool.and_eq_true] at hn
    have hi := ih y f hn.2 (fun z hz => hm z (List.mem_cons_of_mem _ hz)) (by simp at hf ⊢; omega)
    rw [F_spec_UnjustifiedGroup_l2.eq_2, cond_true, spUnj h, Option.bind_some, e2, of_decide_eq_true hn.1, Option.bind_some, hi, pickW_cons (x := lst C.length S)]
    cases unj (ele m C A) (lst C.length S0) (lst A.length G) (lst C.length S) <;> rfl
theorem sp_g (S0 : Nat → Bool) : ∀ (l : List (List Int)) (g : List Int) (f : Nat), nextB A.length (g :: l) = true → (∀ y ∈ g :: l, ∃ G : Nat → Bool, y = lst A.length G) → l.length + 1 < f →
    F_spec_UnjustifiedGroup_l1 (ele m C A) (lst C.length S0) f g true = some (pickG (ele m C A) (lst C.length S0) (setsE C.length) (g :: l)) := by
  have e2 : ((ele m C A).fCosts).length = C.length := by simp [ele]
  have e3 : ((ele m C A).fApprovals).length = A.length := by simp [ele]
  have hlen := setsE_len h.c6
  obtain ⟨x0, l0, hs0, hx0, hnx⟩ := sp_first h.c1 h.c6
  have hw : ∀ G : Nat → Bool, F_spec_UnjustifiedGroup_l2 (ele m C A) (lst C.length S0) (lst A.length G) 1000 x0 true = some (pickW (ele m C A) (lst C.length S0) (lst A.length G) (setsE C.length)) := fun G => by
    rw [hs0]
    refine sp_w h S0 G l0 x0 1000 hnx (fun y hy => setsE_mem h.c6 (by rw [hs0]; exact hy)) ?_
    rw [hs0, List.length_cons] at hlen
    omega
  intro l
  induction l with
  | nil =>
    intro g f hn hm hf
    obtain ⟨f, rfl⟩ : ∃ k, f = k + 1 + 1 := ⟨f - 2, by simp at hf; omega⟩
    obtain ⟨G, rfl⟩ := hm g (List.mem_cons_self ..)
    unfold nextB at hn
    rw [F_spec_UnjustifiedGroup_l1.eq_2, cond_true, e2, hx0, Option.bind_some, hw G, Option.bind_some, e3, of_decide_eq_true hn]
    rw [pickG_cons]
    cases pickW (ele m C A) (lst C.length S0) (lst A.length G) (setsE C.length) with
    | inl r => rfl
    | inr u => rfl
  | cons y l ih =>
    intro g f hn hm hf
    obtain ⟨f, rfl⟩ : ∃ k, f = k + 1 := ⟨f - 1, by omega⟩
    obtain ⟨G, rfl⟩ := hm g (List.mem_cons_self ..)
    unfold nextB at hn
    rw [Bool.and_eq_true] at hn
    have hi := ih y f hn.2 (fun z hz => hm z (List.mem_cons_of_mem _ hz)) (by simp at hf ⊢; omega)
    rw [F_spec_UnjustifiedGroup_l1.eq_2, cond_true, e2, hx0, Option.bind_some, hw G, Option.bind_some, e3, of_decide_eq_true hn.1]
    rw [pickG_cons]
    cases pickW (ele m C A) (lst C.length S0) (lst A.length G) (setsE C.length) with
    | inl r => rfl
    | inr u => exact hi
end
theorem pickW_len {e : DElection} {s g : List Int} {l : List (List Int)} {r : List Int × List Int × Bool} (h : pickW e s g l = Sum.inl r) : r.1 = g ∧ r.2.1 ∈ l := by
  unfold pickW at h
  split at h
  · rename_i w hw
    cases h
    exact ⟨rfl, List.mem_of_find?_eq_some hw⟩
  · cases h
theorem pickG_len {e : DElection} {s : List Int} {E : List (List Int)} (hE : ∀ x ∈ E, x.length ≤ 6) : ∀ {l : List (List Int)}, (∀ x ∈ l, x.length ≤ 6) → (pickG e s E l).1.length ≤ 6 ∧ (pickG e s E l).2.1.length ≤ 6 := by
  intro l
  induction l with
  | nil => intro _; exact ⟨Nat.zero_le _, Nat.zero_le _⟩
  | cons g l ih =>
    intro hl
    rw [pickG_cons]
    split
    · rename_i r hr
      obtain ⟨h1, h2⟩ := pickW_len hr
      exact ⟨by rw [h1]; exact hl g (List.mem_cons_self ..), hE _ h2⟩
    · exact ih fun x hx => hl x (List.mem_cons_of_mem _ hx)
theorem eqUnj (e : DElection) (S : List Int) (h : smEl e) (hS : S.length ≤ maxLen) : ∃ r, F_spec_UnjustifiedGroup e S = some r ∧ F_impl_UnjustifiedGroup e S = some r ∧ r.1.length ≤ 1048576 ∧ r.2.1.length ≤ 1048576 := by
  unfold F_spec_UnjustifiedGroup F_impl_UnjustifiedGroup
  rw [spElect e h, imProjects e S h hS, Option.bind_some]
  cases he : elOk e with
  | false => exact ⟨_, rfl, rfl, Nat.zero_le _, Nat.zero_le _⟩
  | true =>
    rw [show (!true) = false from rfl, cond_false, spSet e S hS, Option.bind_some]
    cases hs : setOk S (IntKind.i64.wrap ((e.fCosts.length : Int) - 1)) with
    | false => exact ⟨_, rfl, rfl, Nat.zero_le _, Nat.zero_le _⟩
    | true =>
      obtain ⟨m, C, A, rfl, hE⟩ := elect_nat he
      have e2 : ((ele m C A).fCosts).length = C.length := by simp [ele]
      have e3 : ((ele m C A).fApprovals).length = A.length := by simp [ele]
      rw [e2] at hs
      have := set_lst (c := C.length) (by have := hE.c6; omega) hs
      generalize hq : (fun i : Nat => S.contains (i : Int)) = q at this
      subst this
      obtain ⟨x0, l0, hs0, hx0, hnx⟩ := sp_first hE.a1 hE.a6
      have hlen := setsE_len hE.a6
      have hsp := sp_g hE q l0 x0 1000 hnx (fun y hy => setsE_mem hE.a6 (by rw [hs0]; exact hy)) (by rw [hs0, List.length_cons] at hlen; omega)
      rw [← hs0] at hsp
      have hb := pickG_len (e := ele m C A) (s := lst C.length q) (E := setsE C.length) (fun x hx => by
        obtain ⟨p, rfl⟩ := setsE_mem hE.c6 hx
        exact Nat.le_trans lst_len hE.c6) (l := setsE A.length) (fun x hx => by
        obtain ⟨p, rfl⟩ := setsE_mem hE.a6 hx
        exact Nat.le_trans lst_len hE.a6)
      refine ⟨pickG (ele m C A) (lst C.length q) (setsE C.length) (setsE A.length), ?_, ?_, by omega, by omega⟩
      · rw [show (some (!true) : Option Bool) = some false from rfl, Option.bind_some, cond_false, e3, hx0, Option.bind_some, hsp]
      · rw [show (some (true && true) : Option Bool) = some true from rfl, Option.bind_some, e3, imSetsE hE.a6]
        exact im_g hE q
end Go.FX
