/- The pure part: what the functions compute, in plain Lean, with no program in sight; no condition. -/
import Derived.Test.YtmeeomkjjnlaoaaRsPure6
namespace Go.FX
open Go Go.GL Go.RowKit
/-! strengths -/
def linkM (M : Nat → Nat → Int) (i k : Nat) : Int := if M i k > M k i then M i k else 0
def mx (a b : Int) : Int := if a > b then a else b
def mi (a b : Int) : Int := if a < b then a else b
theorem spMax (a b : Int) : F_spec_l00Max a b = some (mx a b) := by
  unfold F_spec_l00Max mx
  by_cases h : a > b
  · rw [decide_eq_true h, if_pos h]; rfl
  · rw [decide_eq_false h, if_neg h]; rfl
theorem spMin (a b : Int) : F_spec_l00Min a b = some (mi a b) := by
  unfold F_spec_l00Min mi
  by_cases h : a < b
  · rw [decide_eq_true h, if_pos h]; rfl
  · rw [decide_eq_false h, if_neg h]; rfl
theorem imMx (a b : Int) : imax a b = mx a b := by
  unfold imax mx
  split <;> split <;> omega
theorem imMi (a b : Int) : imin a b = mi a b := by
  unfold imin mi
  split <;> split <;> omega
def stF (m i : Nat) (M : Nat → Nat → Int) (k : Nat) : Nat → Nat → Int := if i = k then M else fun a b => if a = i ∧ b = k then mx (M i k) (mi (M i m) (M m k)) else M a b
def strI (n m : Nat) (M : Nat → Nat → Int) (i : Nat) : Nat → Nat → Int := (List.range n).foldl (stF m i) M
def strB (n : Nat) (M : Nat → Nat → Int) (m : Nat) : Nat → Nat → Int := (List.range n).foldl (strI n m) M
def strM (n : Nat) (M : Nat → Nat → Int) : Nat → Nat → Int := (List.range n).foldl (strB n) (linkM M)
theorem stF_mat {n m i k : Nat} {M : Nat → Nat → Int} (h : i ≠ k) : (mat n M).set i ((tab n (M i)).set k (mx (M i k) (mi (M i m) (M m k)))) = mat n (stF m i M k) := by
  rw [set_mat]
  unfold stF
  rw [if_neg h]
section
variable {n : Nat} (hn : n ≤ 6) {M : Nat → Nat → Int}
include hn
theorem spLinks : F_spec_l06Links (mat n M) = some (mat n (linkM M)) := by
  unfold F_spec_l06Links
  rw [mat_len, spSquare hn, Option.bind_some]
  have h2 : ∀ i, i < n → F_spec_l06Links_l2 (mat n M) (i : Int) (n + 1) (mat n fun a b => if a < i then linkM M a b else 0) 0 = some (mat n fun a b => if a < i + 1 then linkM M a b else 0) := by
    intro i hi
    have := st_loop (n := n) (F := fun f l k => F_spec_l06Links_l2 (mat n M) (i : Int) f l k) (fun k => mat n fun a b => if a < i ∨ (a = i ∧ b < k) then linkM M a b else 0) (r := some (mat n fun a b => if a < i + 1 then linkM M a b else 0)) (fun f => by
      show F_spec_l06Links_l2 _ _ _ _ _ = _
      rw [F_spec_l06Links_l2.eq_2, mat_len, dlt_f (by omega), cond_false]
      congr 1
      refine mat_congr fun a b ha hb => ?_
      by_cases e : a < i + 1
      · rw [if_pos e, if_pos (by omega)]
      · rw [if_neg e, if_neg (by omega)]) (fun k f hk => by
      show F_spec_l06Links_l2 _ _ _ _ _ = F_spec_l06Links_l2 _ _ _ _ _
      rw [F_spec_l06Links_l2.eq_2, mat_len, dlt_t hk, cond_true, idx_mat hi, idx_tab hk, idx_mat hk, idx_tab hi, idx_mat hi, idx_mat hi, idx_tab hk, idx_tab hk, W_succ hk (by unfold maxLen; omega), Int.toNat_natCast, Int.toNat_natCast]
      by_cases q : M i k > M k i
      · rw [decide_eq_true q, cond_true]
        congr 1
        rw [set_mat]
        refine mat_congr fun a b ha hb => ?_
        by_cases e : a = i ∧ b = k
        · rw [if_pos e, if_pos (by omega), e.1, e.2]
          unfold linkM
          rw [if_pos q]
        · rw [if_neg e]
          by_cases e2 : a < i ∨ (a = i ∧ b < k)
          · rw [if_pos e2, if_pos (by omega)]
          · rw [if_neg e2, if_neg (by omega)]
      · rw [decide_eq_false q, cond_false]
        congr 1
        refine mat_congr fun a b ha hb => ?_
        by_cases e : a = i ∧ b = k
        · rw [if_neg (by omega), if_pos (by omega), e.1, e.2]
          unfold linkM
          rw [if_neg q]
        · by_cases e2 : a < i ∨ (a = i ∧ b < k)
          · rw [if_pos e2, if_pos (by omega)]
          · rw [if_neg e2, if_neg (by omega)]) (m := n + 1) (by omega)
    have e0 : (mat n fun a b => if a < i ∨ (a = i ∧ b < 0) then linkM M a b else 0) = mat n fun a b => if a < i then linkM M a b else 0 := mat_congr fun a b _ _ => by
      by_cases e : a < i
      · rw [if_pos e, if_pos (by omega)]
      · rw [if_neg e, if_neg (by omega)]
    rw [← e0]
    exact this
  have := st_loop (n := n) (F := fun f l i => F_spec_l06Links_l1 (mat n M) f l i) (fun i => mat n fun a b => if a < i then linkM M a b else 0) (r := some (mat n (linkM M))) (fun f => by
    show F_spec_l06Links_l1 _ _ _ _ = _
    rw [F_spec_l06Links_l1.eq_2, mat_len, dlt_f (by omega), cond_false]
    congr 1
    exact mat_congr fun a b ha _ => by rw [if_pos ha]) (fun i f hi => by
    show F_spec_l06Links_l1 _ _ _ _ = F_spec_l06Links_l1 _ _ _ _
    rw [F_spec_l06Links_l1.eq_2, mat_len, dlt_t hi, cond_true, h2 i hi, Option.bind_some, W_succ hi (by unfold maxLen; omega)]) (m := n + 1) (by omega)
  have e0 : (mat n fun a b => if a < 0 then linkM M a b else 0) = mat n fun _ _ => 0 := mat_congr fun a b _ _ => by rw [if_neg (by omega)]
  rw [← e0]
  exact this
theorem spStr : F_spec_l06Strengths (mat n M) = some (mat n (strM n M)) := by
  unfold F_spec_l06Strengths
  rw [spLinks hn, Option.bind_some, mat_len]
  have h3 : ∀ m i S, m < n → i < n → F_spec_l06Strengths_l3 (mat n M) (i : Int) (m : Int) (n + 1) (mat n S) 0 = some (mat n (strI n m S i)) := by
    intro m i S hm hi
    exact fold_range (n := n) (F := fun f S k => F_spec_l06Strengths_l3 (mat n M) (i : Int) (m : Int) f (mat n S) k) (stF m i) (fun S => some (mat n S)) (fun _ _ => True) (fun f S _ => by
      show F_spec_l06Strengths_l3 _ _ _ _ _ _ = _
      rw [F_spec_l06Strengths_l3.eq_2, mat_len, dlt_f (by omega)]; rfl) (fun f S k hk _ => by
      show F_spec_l06Strengths_l3 _ _ _ _ _ _ = F_spec_l06Strengths_l3 _ _ _ _ _ _
      rw [F_spec_l06Strengths_l3.eq_2, mat_len, dlt_t hk, cond_true, W_succ hk (by unfold maxLen; omega)]
      by_cases e : i = k
      · rw [e, bne_self_eq_false, cond_false]
        unfold stF
        rw [if_pos rfl]
      · rw [bne_t (by omega), cond_true, idx_mat hi, idx_mat hi, idx_tab hk, idx_mat hi, idx_tab hm, idx_mat hm, idx_tab hk, spMin, Option.bind_some, spMax, Option.bind_some, idx_tab hk, Int.toNat_natCast, Int.toNat_natCast, stF_mat e]) (fun _ _ _ _ => trivial) (by omega) trivial
  have h2 : ∀ m S, m < n → F_spec_l06Strengths_l2 (mat n M) (m : Int) (n + 1) (mat n S) 0 = some (mat n (strB n S m)) := by
    intro m S hm
    exact fold_range (n := n) (F := fun f S k => F_spec_l06Strengths_l2 (mat n M) (m : Int) f (mat n S) k) (strI n m) (fun S => some (mat n S)) (fun _ _ => True) (fun f S _ => by
      show F_spec_l06Strengths_l2 _ _ _ _ _ = _
      rw [F_spec_l06Strengths_l2.eq_2, mat_len, dlt_f (by omega)]; rfl) (fun f S i hi _ => by
      show F_spec_l06Strengths_l2 _ _ _ _ _ = F_spec_l06Strengths_l2 _ _ _ _ _
      rw [F_spec_l06Strengths_l2.eq_2, mat_len, dlt_t hi, cond_true, h3 m i S hm hi, Option.bind_some, W_succ hi (by unfold maxLen; omega)]) (fun _ _ _ _ => trivial) (by omega) trivial
  exact fold_range (n := n) (F := fun f S k => F_spec_l06Strengths_l1 (mat n M) f (mat n S) k) (strB n) (fun S => some (mat n S)) (fun _ _ => True) (fun f S _ => by
    show F_spec_l06Strengths_l1 _ _ _ _ = _
    rw [F_spec_l06Strengths_l1.eq_2, mat_len, dlt_f (by omega)]; rfl) (fun f S m hm _ => by
    show F_spec_l06Strengths_l1 _ _ _ _ = F_spec_l06Strengths_l1 _ _ _ _
    rw [F_spec_l06Strengths_l1.eq_2, mat_len, dlt_t hm, cond_true, h2 m S hm, Option.bind_some, W_succ hm (by unfold maxLen; omega)]) (fun _ _ _ _ => trivial) (by omega) trivial
theorem imStr3 {S : Nat → Nat → Int} : F_impl_Profile_strengths_l3 (n : Int) (Int.toNat ((n : Int) - 0) + 2) (mat n S) 0 = some (mat n ((List.range n).foldl (strB n) S)) := by
  have h3 : ∀ m i S, m < n → i < n → F_impl_Profile_strengths_l5 (n : Int) (i : Int) (m : Int) (Int.toNat ((n : Int) - 0) + 2) (mat n S) 0 = some (mat n (strI n m S i)) := by
    intro m i S hm hi
    exact fold_range (n := n) (F := fun f S k => F_impl_Profile_strengths_l5 (n : Int) (i : Int) (m : Int) f (mat n S) k) (stF m i) (fun S => some (mat n S)) (fun _ _ => True) (fun f S _ => by
      show F_impl_Profile_strengths_l5 _ _ _ _ _ _ = _
      rw [F_impl_Profile_strengths_l5.eq_2, dlt_f (by omega)]; rfl) (fun f S k hk _ => by
      show F_impl_Profile_strengths_l5 _ _ _ _ _ _ = F_impl_Profile_strengths_l5 _ _ _ _ _ _
      rw [F_impl_Profile_strengths_l5.eq_2, dlt_t hk, cond_true, W_succ hk (by unfold maxLen; omega)]
      by_cases e : i = k
      · rw [e, bne_self_eq_false, cond_false]
        unfold stF
        rw [if_pos rfl]
      · rw [bne_t (by omega), cond_true, idx_mat hi, idx_mat hi, idx_tab hk, idx_mat hi, idx_tab hm, idx_mat hm, idx_tab hk, idx_tab hk, Int.toNat_natCast, Int.toNat_natCast, imMi, imMx, stF_mat e]) (fun _ _ _ _ => trivial) (by omega) trivial
  have h2 : ∀ m S, m < n → F_impl_Profile_strengths_l4 (n : Int) (m : Int) (Int.toNat ((n : Int) - 0) + 2) (mat n S) 0 = some (mat n (strB n S m)) := by
    intro m S hm
    exact fold_range (n := n) (F := fun f S k => F_impl_Profile_strengths_l4 (n : Int) (m : Int) f (mat n S) k) (strI n m) (fun S => some (mat n S)) (fun _ _ => True) (fun f S _ => by
      show F_impl_Profile_strengths_l4 _ _ _ _ _ = _
      rw [F_impl_Profile_strengths_l4.eq_2, dlt_f (by omega)]; rfl) (fun f S i hi _ => by
      show F_impl_Profile_strengths_l4 _ _ _ _ _ = F_impl_Profile_strengths_l4 _ _ _ _ _
      rw [F_impl_Profile_strengths_l4.eq_2, dlt_t hi, cond_true, h3 m i S hm hi, Option.bind_some, W_succ hi (by unfold maxLen; omega)]) (fun _ _ _ _ => trivial) (by omega) trivial
  exact fold_range (n := n) (F := fun f S k => F_impl_Profile_strengths_l3 (n : Int) f (mat n S) k) (strB n) (fun S => some (mat n S)) (fun _ _ => True) (fun f S _ => by
    show F_impl_Profile_strengths_l3 _ _ _ _ = _
    rw [F_impl_Profile_strengths_l3.eq_2, dlt_f (by omega)]; rfl) (fun f S m hm _ => by
    show F_impl_Profile_strengths_l3 _ _ _ _ = F_impl_Profile_strengths_l3 _ _ _ _
    rw [F_impl_Profile_strengths_l3.eq_2, dlt_t hm, cond_true, h2 m S hm, Option.bind_some, W_succ hm (by unfold maxLen; omega)]) (fun _ _ _ _ => trivial) (by omega) trivial
theorem imStr1 : F_impl_Profile_strengths_l1 (n : Int) (mat n M) (Int.toNat ((n : Int) - 0) + 2) [] 0 = some (mat n (linkM M)) := by
  have h2 : ∀ i (acc : List (List Int)), i < n → acc.length ≤ 100 → F_impl_Profile_strengths_l2 (n : Int) (mat n M) (i : Int) acc (Int.toNat ((n : Int) - 0) + 2) (tab n fun _ => 0) 0 = some (acc ++ [tab n (linkM M i)]) := by
    intro i acc hi ha
    have := st_loop (n := n) (F := fun f l k => F_impl_Profile_strengths_l2 (n : Int) (mat n M) (i : Int) acc f l k) (fun k => tab n fun b => if b < k then linkM M i b else 0) (r := some (acc ++ [tab n (linkM M i)])) (fun f => by
      show F_impl_Profile_strengths_l2 _ _ _ _ _ _ _ = _
      rw [F_impl_Profile_strengths_l2.eq_2, dlt_f (by omega), cond_false, app_ok (by simp; omega)]
      have : (tab n fun b => if b < n then linkM M i b else 0) = tab n (linkM M i) := tab_congr fun b hb => by rw [if_pos hb]
      rw [this]) (fun k f hk => by
      show F_impl_Profile_strengths_l2 _ _ _ _ _ _ _ = F_impl_Profile_strengths_l2 _ _ _ _ _ _ _
      rw [F_impl_Profile_strengths_l2.eq_2, dlt_t hk, cond_true, idx_mat hi, idx_tab hk, idx_mat hk, idx_tab hi, idx_mat hi, idx_tab hk, idx_tab hk, W_succ hk (by unfold maxLen; omega), Int.toNat_natCast]
      by_cases q : M i k > M k i
      · rw [decide_eq_true q, cond_true, set_tab]
        congr 1
        refine tab_congr fun b hb => ?_
        by_cases e : b = k
        · rw [if_pos e, if_pos (by omega), e]
          unfold linkM
          rw [if_pos q]
        · rw [if_neg e]
          by_cases e2 : b < k
          · rw [if_pos e2, if_pos (by omega)]
          · rw [if_neg e2, if_neg (by omega)]
      · rw [decide_eq_false q, cond_false]
        congr 1
        refine tab_congr fun b hb => ?_
        by_cases e : b = k
        · rw [if_neg (by omega), if_pos (by omega), e]
          unfold linkM
          rw [if_neg q]
        · by_cases e2 : b < k
          · rw [if_pos e2, if_pos (by omega)]
          · rw [if_neg e2, if_neg (by omega)]) (m := Int.toNat ((n : Int) - 0) + 2) (by omega)
    have e0 : (tab n fun b => if b < 0 then linkM M i b else 0) = tab n fun _ => 0 := tab_congr fun b _ => by rw [if_neg (by omega)]
    rw [← e0]
    exact this
  have := app_loop (b := 1) (n := n) (F := F_impl_Profile_strengths_l1 (n : Int) (mat n M)) (m := Int.toNat ((n : Int) - 0) + 2) (acc := []) (fun i => [tab n (linkM M i)]) some 0
    (fun j _ => by simp) (fun f acc => by rw [F_impl_Profile_strengths_l1.eq_2, dlt_f (by omega)]; rfl)
    (fun f acc i hi hacc => by rw [F_impl_Profile_strengths_l1.eq_2, dlt_t hi, cond_true, mk_ok (by omega), Int.toNat_natCast, rep_tab, h2 i acc hi (by omega), Option.bind_some, W_succ hi (by unfold maxLen; omega)]) (by omega) (by simp)
  rw [this, List.nil_append, ← List.map_eq_flatMap]
  rfl
end
theorem imStr {n : Nat} {R : List (List Nat)} {T : List Nat} (h : Prof n R T) : F_impl_Profile_strengths (prof R T) = some (mat n (strM n (pairM R T))) := by
  unfold F_impl_Profile_strengths
  rw [imOptions h, Option.bind_some, imPairs h, Option.bind_some, imStr1 h.n6, Option.bind_some, imStr3 h.n6]
  rfl
/-! the winners -/
end Go.FX
