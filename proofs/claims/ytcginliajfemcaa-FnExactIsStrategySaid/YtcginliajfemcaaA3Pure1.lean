/- The pure part: what the functions compute, in plain Lean, with no program in sight; no condition. -/
import Derived.Test.YtcginliajfemcaaA3Eq
namespace Go.FX
open Go Go.GL Go.RowKit
def within (x a b : Int) : Bool := decide (a ≤ x) && decide (x ≤ b)
theorem spIn (x a b : Int) : F_spec_l00In x a b = some (within x a b) := rfl
theorem imIn (x a b : Int) : F_impl_within x a b = some (within x a b) := rfl
theorem not_ge (a b : Int) : decide (a ≥ b) = !decide (a < b) := by
  by_cases h : a < b
  · rw [decide_eq_true h, decide_eq_false (by omega)]; rfl
  · rw [decide_eq_false h, decide_eq_true (by omega)]; rfl
/-! frames -/
def cmpV : List Int → List Int → Int
  | [], [] => 0
  | [], _ :: _ => -1
  | _ :: _, [] => 1
  | a :: x, b :: y => if a < b then -1 else if b < a then 1 else cmpV x y
theorem cmpInt (a b : Int) : F_cmp_Compare_int64 a b = some (if a < b then -1 else if b < a then 1 else 0) := by
  unfold F_cmp_Compare_int64 F_cmp_isNaN_int64
  simp only [Option.bind_some]
  rw [bne_f rfl, bne_f rfl, cond_false, cond_false]
  by_cases h : a < b
  · rw [decide_eq_true h, if_pos h]; rfl
  · rw [decide_eq_false h, if_neg h, cond_false]
    by_cases h2 : b < a
    · rw [decide_eq_true (by omega), if_pos h2]; rfl
    · rw [decide_eq_false (by omega), if_neg h2]; rfl
theorem cmpL_l1 (a b : List Int) (hl : a.length ≤ maxLen) : ∀ k i f, i + k = a.length → k < f → i ≤ b.length → F_slices_Compare_int64_int64_l1 a b f (i : Int) = some (cmpV (a.drop i) (b.drop i)) := by
  refine up (P := fun i f => i ≤ b.length → F_slices_Compare_int64_int64_l1 a b f (i : Int) = some (cmpV (a.drop i) (b.drop i))) (fun f h => ?_) (fun i f hi ih h => ?_)
  · rw [F_slices_Compare_int64_int64_l1.eq_2, dlt_f (by omega), cond_false, List.drop_length]
    by_cases hb : a.length < b.length
    · rw [dlt_t hb, List.drop_eq_getElem_cons hb]; rfl
    · rw [dlt_f hb, List.drop_of_length_le (by omega)]; rfl
  · rw [F_slices_Compare_int64_int64_l1.eq_2, dlt_t hi, cond_true, idx_nat hi]
    by_cases hb : i < b.length
    · rw [decide_eq_false (by omega), cond_false, idx_nat hb, cmpInt, Option.bind_some, W_succ hi hl, ih (by omega), List.drop_eq_getElem_cons hi, List.drop_eq_getElem_cons hb, cmpV]
      by_cases h1 : a[i] < b[i]
      · rw [if_pos h1, if_pos h1]; rfl
      · rw [if_neg h1, if_neg h1]
        by_cases h2 : b[i] < a[i]
        · rw [if_pos h2, if_pos h2]; rfl
        · rw [if_neg h2, if_neg h2]; rfl
    · rw [decide_eq_true (by omega), cond_true, List.drop_of_length_le (l := b) (by omega), List.drop_eq_getElem_cons hi]; rfl
theorem cmpL (a b : List Int) (hl : a.length ≤ maxLen) : F_slices_Compare_int64_int64 a b = some (cmpV a b) := cmpL_l1 a b hl a.length 0 _ (by omega) (by omega) (by omega)
def smF (f : DFrame) : Prop := f.fAttacks.length ≤ maxLen ∧ ∀ e ∈ f.fAttacks, e.length ≤ maxLen
/-- one attack of a frame -/
def atkOk (c : Int) (a : List Int) : Bool := match a with
  | [x, y] => within x 0 (IntKind.i64.wrap (c - 1)) && within y 0 (IntKind.i64.wrap (c - 1))
  | _ => false
theorem atk_code (c : Int) (a : List Int) {β : Type} (Z : Option β) (K : Option β) {W : Int → Int → Int → Option Bool} (hW : ∀ x y z, W x y z = some (within x y z)) :
    (bif (a.length : Int) != 2 then Z else idx a 0 fun x => (W x 0 (IntKind.i64.wrap (c - 1))).bind fun p => bif !p then Z else idx a 1 fun y => (W y 0 (IntKind.i64.wrap (c - 1))).bind fun q => bif !q then Z else K) = bif atkOk c a then K else Z := by
  match a with
  | [] => rfl
  | [_] => rfl
  | _ :: _ :: _ :: r =>
    rw [show (((_ :: _ :: _ :: r : List Int).length : Int) != 2) = true from bne_t (by simp; omega)]
    rfl
  | [x, y] =>
    show (idx [x, y] 0 fun x => (W x 0 (IntKind.i64.wrap (c - 1))).bind fun p => bif !p then Z else idx [x, y] 1 fun y => (W y 0 (IntKind.i64.wrap (c - 1))).bind fun q => bif !q then Z else K) = _
    rw [idx0 (by simp)]
    simp only [hW, Option.bind_some, List.getElem_cons_zero]
    rw [show (1 : Int) = ((1 : Nat) : Int) from rfl, idx_nat (by simp)]
    simp only [List.getElem_cons_succ, List.getElem_cons_zero]
    rw [show atkOk c [x, y] = (within x 0 (IntKind.i64.wrap (c - 1)) && within y 0 (IntKind.i64.wrap (c - 1))) from rfl]
    cases within x 0 (IntKind.i64.wrap (c - 1)) <;> cases within y 0 (IntKind.i64.wrap (c - 1)) <;> rfl
def frameC (f : DFrame) (i : Nat) : Bool := match f.fAttacks[i]? with
  | some a => atkOk f.fCount a && pairAt (fun a b => decide (cmpV a b < 0)) f.fAttacks i
  | none => false
theorem frameC_at {f : DFrame} {i : Nat} (hi : i < f.fAttacks.length) : frameC f i = (atkOk f.fCount f.fAttacks[i] && pairAt (fun a b => decide (cmpV a b < 0)) f.fAttacks i) := by
  unfold frameC
  rw [List.getElem?_eq_getElem hi]
def frameOk (f : DFrame) : Bool := decide (∀ i, i < f.fAttacks.length → frameC f i = true) && within f.fCount 0 10
theorem imFrame_step (f : DFrame) (h : smF f) (i n : Nat) (hi : i < f.fAttacks.length) : F_impl_ValidFrame_l1 f (n + 1) (i : Int) = bif frameC f i then F_impl_ValidFrame_l1 f n ((i + 1 : Nat) : Int) else some false := by
  rw [F_impl_ValidFrame_l1.eq_2, dlt_t hi, cond_true, idx_nat hi, W_succ hi h.1]
  rw [pair_code (R := fun a b => decide (cmpV a b < 0)) hi h.1 (fun x hx => by rw [cmpL _ _ (h.2 x hx), Option.bind_some, not_ge])]
  rw [atk_code f.fCount f.fAttacks[i] (some true) (some (!pairAt (fun a b => decide (cmpV a b < 0)) f.fAttacks i)) imIn, frameC_at hi]
  cases atkOk f.fCount f.fAttacks[i] <;> cases pairAt (fun a b => decide (cmpV a b < 0)) f.fAttacks i <;> rfl
theorem imFrame (f : DFrame) (h : smF f) : F_impl_ValidFrame f = some (frameOk f) :=
  all_loop (F := F_impl_ValidFrame_l1 f) (frameC f) (fun n => by rw [F_impl_ValidFrame_l1.eq_2, dlt_f (by omega)]; rfl) (fun i n hi => imFrame_step f h i n hi)
theorem within_iff {x a b : Int} : within x a b = true ↔ a ≤ x ∧ x ≤ b := by
  unfold within
  simp
theorem spFrame_l1 (f : DFrame) (h : smF f) (hc : within f.fCount 0 10 = true) : ∀ k i n, i + k = f.fAttacks.length → k < n →
    ∀ last : Int, ((i = 0 ∧ last = -1) ∨ ∃ j x y, i = j + 1 ∧ f.fAttacks[j]? = some [x, y] ∧ 0 ≤ x ∧ x ≤ 9 ∧ 0 ≤ y ∧ y ≤ 9 ∧ last = 10 * x + y) → F_spec_l08Is_l1 f n last (i : Int) = F_impl_ValidFrame_l1 f n (i : Int) := by
  obtain ⟨c0, c1⟩ := within_iff.1 hc
  have hw : IntKind.i64.wrap (f.fCount - 1) = f.fCount - 1 := W_id (by omega) (by omega)
  refine up (P := fun i n => ∀ last : Int, ((i = 0 ∧ last = -1) ∨ ∃ j x y, i = j + 1 ∧ f.fAttacks[j]? = some [x, y] ∧ 0 ≤ x ∧ x ≤ 9 ∧ 0 ≤ y ∧ y ≤ 9 ∧ last = 10 * x + y) → F_spec_l08Is_l1 f n last (i : Int) = F_impl_ValidFrame_l1 f n (i : Int)) (fun n last hlast => ?_) (fun i n hi ih last hlast => ?_)
  · rw [F_spec_l08Is_l1.eq_2, F_impl_ValidFrame_l1.eq_2, dlt_f (by omega), cond_false, cond_false, imIn, hc]; rfl
  · rw [imFrame_step f h i n hi, F_spec_l08Is_l1.eq_2, dlt_t hi, cond_true, idx_nat hi, W_succ hi h.1]
    have e1 : (fun x75 : Bool => some (!x75)) = fun q => bif !q then some true else some false := by funext q; cases q <;> rfl
    rw [e1, atk_code f.fCount f.fAttacks[i] (some true) (some false) spIn, frameC_at hi]
    cases ha : atkOk f.fCount f.fAttacks[i] with
    | false => rfl
    | true =>
      obtain ⟨x, y, hxy⟩ : ∃ x y, f.fAttacks[i] = [x, y] := by
        match hm : f.fAttacks[i], ha with
        | [x, y], _ => exact ⟨x, y, rfl⟩
      rw [hxy] at ha ⊢
      have ha2 : (within x 0 (IntKind.i64.wrap (f.fCount - 1)) && within y 0 (IntKind.i64.wrap (f.fCount - 1))) = true := ha
      rw [Bool.and_eq_true, hw] at ha2
      obtain ⟨hx, hy⟩ := ha2
      rw [within_iff] at hx hy
      rw [cond_true, Option.bind_some, cond_false, Bool.true_and, idx0 (by simp), show (1 : Int) = ((1 : Nat) : Int) from rfl, idx_nat (by simp)]
      simp only [List.getElem_cons_zero, List.getElem_cons_succ]
      simp only [W_id (n := x * 10) (by omega) (by omega), W_id (n := x * 10 + y) (by omega) (by omega)]
      rcases hlast with ⟨rfl, rfl⟩ | ⟨j, px, py, rfl, hj, p1, p2, p3, p4, rfl⟩
      · rw [decide_eq_false (by omega), cond_false]
        exact ih _ (.inr ⟨0, x, y, rfl, by rw [List.getElem?_eq_getElem hi, hxy], by omega, by omega, by omega, by omega, by omega⟩)
      · have hje : f.fAttacks[j]'(by omega) = [px, py] := by
          rw [List.getElem?_eq_getElem (by omega)] at hj
          exact Option.some.inj hj
        rw [pairAt_succ hi, hje, hxy]
        have hcmp : decide (cmpV [px, py] [x, y] < 0) = !decide (x * 10 + y ≤ 10 * px + py) := by
          simp only [cmpV]
          split
          · rw [decide_eq_true (by omega), decide_eq_false (by omega)]; rfl
          · split
            · rw [decide_eq_false (by omega), decide_eq_true (by omega)]; rfl
            · split
              · rw [decide_eq_true (by omega), decide_eq_false (by omega)]; rfl
              · split
                · rw [decide_eq_false (by omega), decide_eq_true (by omega)]; rfl
                · rw [decide_eq_false (by omega), decide_eq_true (by omega)]; rfl
        rw [hcmp]
        cases hd : decide (x * 10 + y ≤ 10 * px + py) with
        | true => rfl
        | false =>
          rw [cond_false, Bool.not_false, cond_true]
          exact ih _ (.inr ⟨j + 1, x, y, rfl, by rw [List.getElem?_eq_getElem hi, hxy], by omega, by omega, by omega, by omega, by omega⟩)
theorem spFrame (f : DFrame) (h : smF f) : F_spec_l08Is f = some (frameOk f) := by
  unfold F_spec_l08Is
  rw [spIn, Option.bind_some]
  cases hc : within f.fCount 0 10 with
  | false => unfold frameOk; rw [hc, Bool.and_false]; rfl
  | true =>
    rw [← imFrame f h]
    exact spFrame_l1 f h hc f.fAttacks.length 0 _ (by omega) (by omega) (-1) (.inl ⟨rfl, rfl⟩)
theorem smF_to {f : LFrame} (h : ok_LFrame f) : smF (to_LFrame f) := by
  have e : (to_LFrame f).fAttacks = f.fAttacks := List.map_id' _
  unfold smF
  rw [e]
  exact ⟨h.2.1, fun e he => (h.2.2 e he).1⟩
end Go.FX
