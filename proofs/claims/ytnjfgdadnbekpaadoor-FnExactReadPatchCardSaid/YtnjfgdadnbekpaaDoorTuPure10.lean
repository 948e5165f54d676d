/- The pure part: what the functions compute, in plain Lean, with no program in sight; no condition. -/
import Derived.Test.YtnjfgdadnbekpaaDoorTuPure9
namespace Go.FX
open Go Go.GL Go.RowKit
theorem bqd (n m : Nat) : ((n : Int) == (m : Int)) = decide (n = m) := by
  rw [Bool.eq_iff_iff, beq_iff_eq, decide_eq_true_eq]; omega
theorem bq43 {n : Nat} : ((n : Int) == 43) = decide (n = 43) := bqd n 43
theorem bq45 {n : Nat} : ((n : Int) == 45) = decide (n = 45) := bqd n 45
theorem bq126 {n : Nat} : ((n : Int) == 126) = decide (n = 126) := bqd n 126
theorem sub1 {β : Type} (c : UInt8) (y : Bytes) (k : Bytes → Option β) : sub (c :: y) 1 (List.length (c :: y) : Int) k = k y := by
  have h := sub_ok (l := c :: y) (i := 1) (j := (c :: y).length) (k := k) (by simp) (Nat.le_refl _)
  rw [List.take_length] at h
  exact h
theorem drop1 (c : UInt8) (y : Bytes) : List.drop (Int.toNat 1) (List.take (Int.toNat (List.length (c :: y) : Int)) (c :: y)) = y := by
  rw [Int.toNat_natCast, List.take_length]; rfl
theorem spLine (x : Bytes) (hl : x.length ≤ 1048576) : F_spec_l07Line x = some (ed1 x) := by
  cases x with
  | nil => rfl
  | cons c y =>
    have hc := cut_len 32 y
    rw [List.length_cons] at hl
    obtain ⟨i, b, e, -⟩ := spRead (cutB 32 y).1 (by unfold maxLen; omega)
    have hn : num1 (cutB 32 y).1 = i := by unfold num1; rw [e]; rfl
    have hc1 : F_spec_l07Cut y 32 = some (cutB 32 y) := spCut y 32 (by unfold maxLen; omega)
    have hc2 : F_spec_l07Cut (cutB 32 y).2 124 = some (cutB 124 (cutB 32 y).2) := spCut (cutB 32 y).2 124 (by unfold maxLen; omega)
    unfold F_spec_l07Line
    rw [show ((c :: y : Bytes) == []) = false from rfl, cond_false, sub1, drop1, hc1, Option.bind_some, e, Option.bind_some, idx0 (by simp), hc2, ed1]
    simp only [List.getElem_cons_zero, bq43, bq45, bq126, hn]
    by_cases h1 : c.toNat = 43
    · simp [h1]
    · by_cases h2 : c.toNat = 45
      · simp [h2]
      · by_cases h3 : c.toNat = 126
        · simp [h3]
        · simp [h1, h2, h3]
theorem sp_eds (L : List Bytes) (b : Bool) (hL : L.length ≤ 100) (hl : ∀ x ∈ L, x.length ≤ 1048576) : F_spec_l07ReadPatch_l1 (L, b) (L.length + 1) [] 0 = some (L.map ed1) := by
  have key : ∀ k i f, i + k = L.length → k < f → ∀ out : List DEdit, out.length ≤ i → F_spec_l07ReadPatch_l1 (L, b) f out (i : Int) = some (out ++ (L.drop i).map ed1) := by
    refine up (P := fun i f => ∀ out : List DEdit, out.length ≤ i → F_spec_l07ReadPatch_l1 (L, b) f out (i : Int) = some (out ++ (L.drop i).map ed1)) (fun f out ho => ?_) (fun i f hi ih out ho => ?_)
    · rw [F_spec_l07ReadPatch_l1.eq_2, dlt_f (Nat.lt_irrefl _), cond_false, List.drop_of_length_le (Nat.le_refl _), List.map_nil, List.append_nil]
    · rw [F_spec_l07ReadPatch_l1.eq_2, dlt_t hi, cond_true, idx_nat hi, spLine _ (hl _ (List.getElem_mem hi)), Option.bind_some, app_ok (by simp only [List.length_cons, List.length_nil]; omega), W_succ hi (by unfold maxLen; omega), ih _ (by simp only [List.length_append, List.length_cons, List.length_nil]; omega), List.drop_eq_getElem_cons hi, List.map_cons, List.append_assoc]
      rfl
  exact key L.length 0 (L.length + 1) (by omega) (by omega) [] (Nat.le_refl _)
theorem im_eds (L : List Bytes) (hL : L.length ≤ 1000000) (hl : ∀ x ∈ L, x.length ≤ 1048576) : F_impl_ReadPatch_l1 L (L.length + 1) [] 0 = some (if [] ∈ L then Sum.inl ([], false) else Sum.inr (L.map ed2)) := by
  have key : ∀ k i f, i + k = L.length → k < f → ∀ out : List DEdit, out.length ≤ i → F_impl_ReadPatch_l1 L f out (i : Int) = some (if [] ∈ L.drop i then Sum.inl ([], false) else Sum.inr (out ++ (L.drop i).map ed2)) := by
    refine up (P := fun i f => ∀ out : List DEdit, out.length ≤ i → F_impl_ReadPatch_l1 L f out (i : Int) = some (if [] ∈ L.drop i then Sum.inl ([], false) else Sum.inr (out ++ (L.drop i).map ed2))) (fun f out ho => ?_) (fun i f hi ih out ho => ?_)
    · rw [F_impl_ReadPatch_l1.eq_2, dlt_f (Nat.lt_irrefl _), cond_false, List.drop_of_length_le (Nat.le_refl _), if_neg (by simp), List.map_nil, List.append_nil]
    · have hx := hl _ (List.getElem_mem hi)
      rw [F_impl_ReadPatch_l1.eq_2, dlt_t hi, cond_true, idx_nat hi, W_succ hi (by unfold maxLen; omega), List.drop_eq_getElem_cons hi]
      generalize hxe : L[i] = x at *
      cases x with
      | nil => rw [if_pos (by simp)]; rfl
      | cons c y =>
        have hc := cut_len 32 y
        rw [List.length_cons] at hx
        obtain ⟨⟨n, b⟩, e, -⟩ := imRead (cutB 32 y).1 1 99 (by omega)
        have hn : num2 (cutB 32 y).1 = n := by unfold num2; rw [e]; rfl
        obtain ⟨b1, hc1⟩ := imCut y 32 (by unfold maxLen; omega)
        obtain ⟨b2, hc2⟩ := imCut (cutB 32 y).2 124 (by unfold maxLen; omega)
        rw [show UInt8.toNat 32 = 32 from rfl] at hc1
        rw [show UInt8.toNat 124 = 124 from rfl] at hc2
        have h0 : ∀ (z : DEdit), (if ([] : Bytes) ∈ (c :: y) :: L.drop (i + 1) then (Sum.inl (([] : List DEdit), false)) else Sum.inr (out ++ ((c :: y) :: L.drop (i + 1)).map ed2)) =
            if ([] : Bytes) ∈ L.drop (i + 1) then (Sum.inl (([] : List DEdit), false)) else Sum.inr ((out ++ [ed2 (c :: y)]) ++ (L.drop (i + 1)).map ed2) := fun _ => by
          by_cases hm : ([] : Bytes) ∈ L.drop (i + 1)
          · rw [if_pos hm, if_pos (List.mem_cons_of_mem _ hm)]
          · rw [if_neg hm, if_neg (by rw [List.mem_cons, not_or]; exact ⟨by simp, hm⟩), List.map_cons, List.append_assoc]; rfl
        rw [show ((c :: y : Bytes) == []) = false from rfl, cond_false, sub1, drop1, hc1, Option.bind_some]
        simp only
        rw [e, Option.bind_some]
        simp only
        rw [hc2, Option.bind_some, idx0 (by simp), h0 ⟨0, 0, [], []⟩, ed2]
        simp only [List.getElem_cons_zero, bq43, bq45, hn]
        have ho2 : ∀ z : DEdit, (out ++ [z]).length ≤ i + 1 := fun z => by rw [List.length_append, List.length_singleton]; omega
        by_cases h1 : c.toNat = 43
        · rw [decide_eq_true h1, cond_true, app_ok (by simp only [List.length_cons, List.length_nil]; omega), ih _ (ho2 _), if_pos h1]
        · rw [decide_eq_false h1, cond_false, if_neg h1]
          by_cases h2 : c.toNat = 45
          · rw [decide_eq_true h2, cond_true, app_ok (by simp only [List.length_cons, List.length_nil]; omega), ih _ (ho2 _), if_pos h2]
          · rw [decide_eq_false h2, cond_false, app_ok (by simp only [List.length_cons, List.length_nil]; omega), ih _ (ho2 _), if_neg h2]
  have := key L.length 0 (L.length + 1) (by omega) (by omega) [] (Nat.le_refl _)
  rw [List.drop_zero, List.nil_append] at this
  exact this
theorem ed_len {x : Bytes} (hl : x.length ≤ 1048576) : smE (ed1 x) ∧ smE (ed2 x) := by
  cases x with
  | nil => exact ⟨⟨by decide, by decide⟩, by decide, by decide⟩
  | cons c y =>
    have h1 := cut_len 32 y
    have h2 := cut_len 124 (cutB 32 y).2
    rw [List.length_cons] at hl
    have hm : 1048576 ≤ maxLen := by decide
    rw [ed1, ed2]
    unfold smE
    constructor
    · split
      · exact ⟨by simp, by show (cutB 32 y).2.length ≤ _; omega⟩
      · split
        · exact ⟨by show (cutB 32 y).2.length ≤ _; omega, by simp⟩
        · split
          · exact ⟨by show (cutB 124 (cutB 32 y).2).1.length ≤ _; omega, by show (cutB 124 (cutB 32 y).2).2.length ≤ _; omega⟩
          · exact ⟨by simp, by simp⟩
    · split
      · exact ⟨by simp, by show (cutB 32 y).2.length ≤ _; omega⟩
      · split
        · exact ⟨by show (cutB 32 y).2.length ≤ _; omega, by simp⟩
        · exact ⟨by show (cutB 124 (cutB 32 y).2).1.length ≤ _; omega, by show (cutB 124 (cutB 32 y).2).2.length ≤ _; omega⟩
theorem smP_map {L : List Bytes} (hL : L.length ≤ 1048576) (p : Bytes → DEdit) (hp : ∀ x ∈ L, smE (p x)) : smP (L.map p) := by
  refine ⟨by rw [List.length_map]; exact Nat.le_trans hL (by decide), fun e he => ?_⟩
  obtain ⟨x, hx, rfl⟩ := List.mem_map.1 he
  exact hp x hx
theorem pat_id {l : List DEdit} (h : patchOk l = true) {e : DEdit} (he : e ∈ l) : within e.fId 1 99 = true := by
  obtain ⟨h1, h2, -⟩ := pat_ok h he
  unfold within
  rw [decide_eq_true h1, decide_eq_true h2]; rfl
/-- what both return, as one condition on the lines -/
theorem spReadPat (t : Bytes) (ht : t.length ≤ 1048576) : F_spec_ReadPatch t = some (if (spl [] t).1.length ≤ 16 ∧ (spl [] t).2 = [] ∧ patchOk ((spl [] t).1.map ed1) = true ∧ ptxt ((spl [] t).1.map ed1) = t then ((spl [] t).1.map ed1, true) else ([], false)) := by
  obtain ⟨hl, hr⟩ := spl_len t []
  simp only [List.length_nil, Nat.zero_add] at hl hr
  have hsl : F_spec_l07Lines t 16 = some (if (spl [] t).1.length ≤ 16 then ((spl [] t).1, decide ((spl [] t).2 = [])) else ([], false)) := spLines t 16 (Nat.le_trans ht (by decide)) (by omega)
  have hl2 : ∀ x ∈ (spl [] t).1, x.length ≤ 1048576 := fun x hx => Nat.le_trans (hl x hx) ht
  generalize (spl [] t).1 = L at *
  generalize (spl [] t).2 = r at *
  unfold F_spec_ReadPatch F_spec_l07ReadPatch
  rw [hsl, Option.bind_some]
  by_cases h16 : L.length ≤ 16
  · rw [if_pos h16]
    by_cases hr0 : r = []
    · simp only [hr0, decide_true, Bool.not_true, cond_false]
      have hsm := smP_map (L := L) (by omega) ed1 fun x hx => (ed_len (hl2 x hx)).1
      rw [sp_eds L true (by omega) hl2, Option.bind_some, spPatch _ hsm.1 hsm.2, Option.bind_some]
      cases q1 : patchOk (L.map ed1) with
      | false => rw [if_neg (by simp)]; rfl
      | true =>
        rw [Bool.not_true, cond_false, (pat_text q1).1, Option.bind_some, Option.bind_some]
        by_cases he : ptxt (L.map ed1) = t
        · rw [if_pos ⟨h16, trivial, rfl, he⟩, show (ptxt (L.map ed1) != t) = false from by rw [he]; exact bne_self_eq_false t]; rfl
        · rw [if_neg (by rintro ⟨-, -, -, h⟩; exact he h), show (ptxt (L.map ed1) != t) = true from by rw [bne_iff_ne]; exact he]; rfl
    · simp only [hr0, decide_false, Bool.not_false, cond_true]
      rw [if_neg (by rintro ⟨-, h, -⟩; exact h.elim)]; rfl
  · rw [if_neg h16, if_neg (by rintro ⟨h, -⟩; exact h16 h)]; rfl
theorem imPatText (l : List DEdit) (h : smP l) : F_impl_PatchText l = (if patchOk l = true then some (ptxt l, true) else some ([], false)) := by
  unfold F_impl_PatchText
  rw [imPatch l h.1 h.2, Option.bind_some]
  cases q : patchOk l with
  | false => rfl
  | true => rw [Bool.not_true, cond_false, (pat_text q).2]; rfl
theorem imReadPat (t : Bytes) : F_impl_ReadPatch t = some (if t.length ≤ 2000 ∧ [] ∉ (spl [] t).1 ∧ patchOk ((spl [] t).1.map ed2) = true ∧ ptxt ((spl [] t).1.map ed2) = t then ((spl [] t).1.map ed2, true) else ([], false)) := by
  unfold F_impl_ReadPatch
  by_cases h2 : t.length ≤ 2000
  · obtain ⟨hl, hr⟩ := spl_len t []
    simp only [List.length_nil, Nat.zero_add] at hl hr
    have hcl := spl_count t []
    have hcnt : t.count 10 ≤ t.length := List.count_le_length
    have hl2 : ∀ x ∈ (spl [] t).1, x.length ≤ 1048576 := fun x hx => Nat.le_trans (hl x hx) (by omega)
    rw [show decide ((List.length t : Int) > 2000) = false from decide_eq_false (by omega), cond_false, imLines t (by omega), Option.bind_some, im_eds _ (by omega) hl2, Option.bind_some]
    by_cases hm : [] ∈ (spl [] t).1
    · rw [if_pos hm, if_neg (by rintro ⟨-, h, -⟩; exact h hm)]; rfl
    · rw [if_neg hm]
      show (F_impl_PatchText ((spl [] t).1.map ed2)).bind _ = _
      have hsm := smP_map (L := (spl [] t).1) (by omega) ed2 fun x hx => (ed_len (hl2 x hx)).2
      rw [imPatText _ hsm]
      cases q : patchOk ((spl [] t).1.map ed2) with
      | false => rw [if_neg (by decide), if_neg (by simp)]; rfl
      | true =>
        rw [if_pos rfl, Option.bind_some]
        by_cases he : ptxt ((spl [] t).1.map ed2) = t
        · rw [if_pos ⟨h2, hm, rfl, he⟩]
          simp only [show (ptxt ((spl [] t).1.map ed2) != t) = false from by rw [he]; exact bne_self_eq_false t]
          rfl
        · rw [if_neg (by rintro ⟨-, -, -, h⟩; exact he h)]
          simp only [show (ptxt ((spl [] t).1.map ed2) != t) = true from by rw [bne_iff_ne]; exact he]
          rfl
  · rw [show decide ((List.length t : Int) > 2000) = true from decide_eq_true (by omega), cond_true, if_neg (by rintro ⟨h, -⟩; exact h2 h)]
theorem eqReadPat (t : Bytes) (ht : t.length ≤ 1048576) : ∃ r, F_spec_ReadPatch t = some r ∧ F_impl_ReadPatch t = some r ∧ r.1.length ≤ 1048576 := by
  rw [spReadPat t ht, imReadPat t]
  obtain ⟨hl, -⟩ := spl_len t []
  simp only [List.length_nil, Nat.zero_add] at hl
  have hl2 : ∀ x ∈ (spl [] t).1, x.length ≤ 1048576 := fun x hx => Nat.le_trans (hl x hx) ht
  by_cases A : (spl [] t).1.length ≤ 16 ∧ (spl [] t).2 = [] ∧ patchOk ((spl [] t).1.map ed1) = true ∧ ptxt ((spl [] t).1.map ed1) = t
  · obtain ⟨a1, a2, a3, a4⟩ := A
    have hx : ∀ x ∈ (spl [] t).1, x ≠ [] ∧ ed1 x = ed2 x := fun x hx => ed_eq1 (hl2 x hx) (pat_id a3 (List.mem_map_of_mem hx))
    have he : (spl [] t).1.map ed1 = (spl [] t).1.map ed2 := List.map_congr_left fun x hm => (hx x hm).2
    have hlen := ptxt_len a3
    rw [a4] at hlen
    rw [if_pos ⟨a1, a2, a3, a4⟩, ← he, if_pos ⟨by omega, fun h => (hx _ h).1 rfl, a3, a4⟩]
    exact ⟨_, rfl, rfl, by rw [List.length_map]; omega⟩
  · rw [if_neg A]
    by_cases B : t.length ≤ 2000 ∧ [] ∉ (spl [] t).1 ∧ patchOk ((spl [] t).1.map ed2) = true ∧ ptxt ((spl [] t).1.map ed2) = t
    · exfalso
      obtain ⟨b1, b2, b3, b4⟩ := B
      have hs := ptxt_spl b3
      rw [b4] at hs
      have hrest : (spl [] t).2 = [] := by rw [hs]
      have hL : (spl [] t).1 = ((spl [] t).1.map ed2).map pline := congrArg Prod.fst hs
      have hx : ∀ x ∈ (spl [] t).1, ed1 x = ed2 x := fun x hm => by
        refine ed_eq2 (hl2 x hm) (pat_id b3 (List.mem_map_of_mem hm)) ?_
        obtain ⟨i, hi, rfl⟩ := List.getElem_of_mem hm
        have := congrArg (fun l => l[i]?) hL
        simp only [List.map_map, List.getElem?_map, List.getElem?_eq_getElem hi, Option.map_some, Option.some.injEq] at this
        exact this.symm
      have he : (spl [] t).1.map ed1 = (spl [] t).1.map ed2 := List.map_congr_left hx
      refine A ⟨?_, hrest, by rw [he]; exact b3, by rw [he]; exact b4⟩
      have := pat_len b3
      rwa [List.length_map] at this
    · rw [if_neg B]
      exact ⟨_, rfl, rfl, by simp⟩
end Go.FX
