/- The pure part: what the functions compute, in plain Lean, with no program in sight; no condition. -/
import Derived.Test.YtmeeomkjjnlaoaaRuPure1
namespace Go.FX
open Go Go.GL Go.RowKit
/-! counting -/
def atf {α β : Type} (A : List α) (g : α → β) (i : Nat) : List β := match A[i]? with | some P => [g P] | none => []
theorem atf_at {α β : Type} {A : List α} {g : α → β} {i : Nat} (h : i < A.length) : atf A g i = [g A[i]] := by unfold atf; rw [List.getElem?_eq_getElem h]
theorem flat_at {α β : Type} {A : List α} {g : α → β} : ((List.range A.length).flatMap (atf A g)) = A.map g := by
  induction A with
  | nil => rfl
  | cons a A ih =>
    rw [List.length_cons, List.range_succ_eq_map, List.flatMap_cons, List.flatMap_map, List.map_cons, ← ih]
    rfl

theorem cnt_loop {τ : Type} {n : Nat} {F : Nat → Int → Int → Option τ} (p : Nat → Bool) (fin : Nat → Option τ) (he : ∀ f c, F (f + 1) ((c : Nat) : Int) (n : Int) = fin c)
    (hs : ∀ f c i, i < n → c ≤ i → F (f + 1) ((c : Nat) : Int) (i : Int) = bif p i then F f ((c + 1 : Nat) : Int) ((i + 1 : Nat) : Int) else F f (c : Int) ((i + 1 : Nat) : Int)) {m : Nat} (hm : n < m) :
    F m 0 0 = fin ((List.range n).countP p) := by
  have key : ∀ k i f, i + k = n → k < f → ∀ c, c ≤ i → F f ((c : Nat) : Int) (i : Int) = fin (c + ((List.range n).drop i).countP p) := by
    refine up (P := fun i f => ∀ c, c ≤ i → F f ((c : Nat) : Int) (i : Int) = fin (c + ((List.range n).drop i).countP p)) (fun f c _ => ?_) (fun i f hi ih c hc => ?_)
    · rw [he, List.drop_of_length_le (by simp)]; rfl
    · rw [hs f c i hi hc, List.drop_eq_getElem_cons (by simpa using hi), List.countP_cons, List.getElem_range]
      cases p i with
      | false => rw [cond_false, ih c (by omega)]; rfl
      | true => rw [cond_true, ih (c + 1) (by omega)]; congr 1; rw [if_pos rfl]; omega
  have := key n 0 m (by omega) hm 0 (by omega)
  rw [show (0 : Nat) + ((List.range n).drop 0).countP p = (List.range n).countP p by rw [List.drop_zero]; omega] at this
  exact this
theorem cnt_lst {c : Nat} {P : Nat → Bool} {q : Int → Bool} : (lst c P).countP q = (List.range c).countP (fun i : Nat => q (i : Int) && P i) := by
  unfold lst
  rw [List.countP_map, List.countP_filter]; rfl
theorem cnt_range {l : List Int} {q : Int → Bool} : (List.range l.length).countP (fun j => q l[j]!) = l.countP q := by
  have h : l = (List.range l.length).map (fun j => l[j]!) := eq_tab l
  have h2 : ((List.range l.length).map (fun j => l[j]!)).countP q = (List.range l.length).countP (fun j => q l[j]!) := by rw [List.countP_map]; rfl
  rw [← h2, ← h]
theorem cnt_list {τ : Type} {l : List Int} {F : Nat → Int → Int → Option τ} (q : Int → Bool) (fin : Nat → Option τ) (hl : l.length ≤ maxLen) (he : ∀ f c, F (f + 1) ((c : Nat) : Int) (l.length : Int) = fin c)
    (hs : ∀ f c i (h : i < l.length), c ≤ i → F (f + 1) ((c : Nat) : Int) (i : Int) = bif q l[i] then F f (IntKind.i64.wrap ((c : Int) + 1)) (IntKind.i64.wrap ((i : Int) + 1)) else F f (c : Int) (IntKind.i64.wrap ((i : Int) + 1))) :
    F (l.length + 1) 0 0 = fin (l.countP q) := by
  rw [← cnt_range]
  refine cnt_loop (n := l.length) _ fin he (fun f c i hi hc => ?_) (by omega)
  rw [hs f c i hi hc, W_succ hi hl, W_succ (n := l.length) (by omega) hl, getElem!_pos l i hi]
def both (c : Nat) (P S : Nat → Bool) : Nat := (List.range c).countP fun i => P i && S i
theorem both_lst {c : Nat} {P S : Nat → Bool} : (lst c S).countP (fun x => (lst c P).contains x) = both c P S := by
  rw [cnt_lst]
  refine List.countP_congr fun i hi => ?_
  rw [lst_contains, decide_eq_true (List.mem_range.1 hi), Bool.true_and]
theorem both_lst' {c : Nat} {P S : Nat → Bool} : (lst c P).countP (fun x => (lst c S).contains x) = both c P S := by
  rw [cnt_lst]
  refine List.countP_congr fun i hi => ?_
  rw [lst_contains, decide_eq_true (List.mem_range.1 hi), Bool.true_and, Bool.and_comm]
def apprs (c : Nat) (A : List (Nat → Bool)) (S : Nat → Bool) : List Int := A.map fun P => (both c P S : Int)
theorem spApproved {m : Nat} {C : List Nat} {A : List (Nat → Bool)} {S : Nat → Bool} (h : Elec m C A) : F_spec_l05Approved (ele m C A) (lst C.length S) = some (apprs C.length A S) := by
  have hc := h.c6
  have ha := h.a6
  have hlen : ((ele m C A).fApprovals).length = A.length := by simp [ele]
  unfold F_spec_l05Approved
  have hS : (lst C.length S).length ≤ maxLen := Nat.le_trans lst_len (by unfold maxLen; omega)
  have inner : ∀ (acc : List Int) (i : Nat) (hi : i < A.length), acc.length ≤ 6 → F_spec_l05Approved_l2 (lst C.length S) (ele m C A) (i : Int) acc ((lst C.length S).length + 1) 0 0 = some (acc ++ [(both C.length A[i] S : Int)]) := by
    intro acc i hi hacc
    rw [← both_lst]
    refine cnt_list (F := F_spec_l05Approved_l2 (lst C.length S) (ele m C A) (i : Int) acc) _ (fun n => some (acc ++ [(n : Int)])) hS (fun f c => ?_) (fun f c j hj hcj => ?_)
    · rw [F_spec_l05Approved_l2.eq_2, dlt_f (by omega), cond_false, app_ok (by simp; omega)]
    · rw [F_spec_l05Approved_l2.eq_2, dlt_t hj, cond_true, idx_nat (by rw [hlen]; exact hi), idx_nat hj]
      have e1 : (ele m C A).fApprovals[i]'(by rw [hlen]; exact hi) = lst C.length A[i] := by simp [ele]
      rw [e1, spHas _ _ (Nat.le_trans lst_len (by unfold maxLen; omega)), Option.bind_some]
  rw [hlen]
  have := app_loop (b := 1) (n := A.length) (F := F_spec_l05Approved_l1 (ele m C A) (lst C.length S)) (m := A.length + 1) (acc := []) (atf A fun P => (both C.length P S : Int)) some 0
    (fun i hi => by rw [atf_at hi]; exact Nat.le_refl 1) (fun f acc => by rw [F_spec_l05Approved_l1.eq_2, hlen, dlt_f (by omega)]; rfl)
    (fun f acc i hi hacc => by
      rw [F_spec_l05Approved_l1.eq_2, hlen, dlt_t hi, cond_true, inner acc i hi (by omega), Option.bind_some, W_succ (n := A.length) hi (by unfold maxLen; omega), atf_at hi]) (by omega) (by simp)
  refine this.trans ?_
  congr 1
  unfold apprs
  rw [List.nil_append]
  exact flat_at
theorem spSet (e : DElection) (S : List Int) (hS : S.length ≤ maxLen) : F_spec_l05Set e S = some (setOk S (IntKind.i64.wrap ((e.fCosts.length : Int) - 1))) := by
  unfold F_spec_l05Set
  rw [spRises _ _ hS]; rfl
theorem imProjects (e : DElection) (S : List Int) (h : smEl e) (hS : S.length ≤ maxLen) : F_impl_isProjects e S = some (elOk e && setOk S (IntKind.i64.wrap ((e.fCosts.length : Int) - 1))) := by
  unfold F_impl_isProjects
  rw [imElect e h, Option.bind_some]
  cases elOk e with
  | false => rfl
  | true => rw [cond_true, imIsSet _ _ hS]; rfl
end Go.FX
