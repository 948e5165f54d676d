/- The pure part: what the functions compute, in plain Lean, with no program in sight; no condition. -/
import Derived.Test.YtegfiapfgffcgaaBeBuy3
namespace Go.FX
open Go Go.GL Go.RowKit
/-! the best of some candidates -/
def stepB (cand : Nat → Option DFraction) (s : Option (Nat × DFraction)) (p : Nat) : Option (Nat × DFraction) :=
  match cand p with
  | none => s
  | some t => match s with
    | none => some (p, t)
    | some (q, u) => if cmpF t u < 0 then some (p, t) else some (q, u)
def best (cand : Nat → Option DFraction) (c : Nat) : Option (Nat × DFraction) := (List.range c).foldl (stepB cand) none
def encB (z : Int) : Option (Nat × DFraction) → Int × Int × Int
  | none => (-1, 0, z)
  | some (q, t) => ((q : Int), t.fNum, t.fDen)
theorem stepB_mem {cand : Nat → Option DFraction} {s : Option (Nat × DFraction)} {p q : Nat} {t : DFraction} (h : stepB cand s p = some (q, t)) : s = some (q, t) ∨ q = p ∧ cand p = some t := by
  unfold stepB at h
  cases hc : cand p with
  | none => rw [hc] at h; exact .inl h
  | some u =>
    rw [hc] at h
    cases s with
    | none => cases h; exact .inr ⟨rfl, rfl⟩
    | some v =>
      obtain ⟨q', u'⟩ := v
      simp only at h
      split at h
      · cases h; exact .inr ⟨rfl, rfl⟩
      · exact .inl h
theorem best_mem {cand : Nat → Option DFraction} {q : Nat} {t : DFraction} : ∀ {c : Nat}, best cand c = some (q, t) → q < c ∧ cand q = some t := by
  intro c
  induction c with
  | zero => intro h; cases h
  | succ c ih =>
    intro h
    unfold best at h
    rw [List.range_succ, List.foldl_append] at h
    rcases stepB_mem h with h | ⟨rfl, h⟩
    · have := ih h
      exact ⟨by omega, this.2⟩
    · exact ⟨by omega, h⟩
theorem best_none {cand : Nat → Option DFraction} : ∀ {c : Nat}, (∀ p, p < c → cand p = none) → best cand c = none := by
  intro c
  induction c with
  | zero => intro _; rfl
  | succ c ih =>
    intro h
    unfold best
    rw [List.range_succ, List.foldl_append]
    have := ih fun p hp => h p (by omega)
    unfold best at this
    rw [this]
    simp only [List.foldl_cons, List.foldl_nil, stepB, h c (by omega)]
theorem scan_loop {τ : Type} {c : Nat} {z : Int} {cand : Nat → Option DFraction} {F : Nat → Int → Int → Int → Int → Option τ} (fin : Option (Nat × DFraction) → Option τ)
    (hc : ∀ p t, p < c → cand p = some t → Sm t)
    (he : ∀ f s, F (f + 1) (encB z s).1 (encB z s).2.1 (encB z s).2.2 (c : Int) = fin s)
    (hs : ∀ f s p, p < c → (∀ q t, s = some (q, t) → Sm t) → F (f + 1) (encB z s).1 (encB z s).2.1 (encB z s).2.2 (p : Int) = F f (encB z (stepB cand s p)).1 (encB z (stepB cand s p)).2.1 (encB z (stepB cand s p)).2.2 ((p + 1 : Nat) : Int)) :
    F (c + 1) (-1) 0 z 0 = fin (best cand c) := by
  have := fold_range (n := c) (F := fun f s i => F f (encB z s).1 (encB z s).2.1 (encB z s).2.2 i) (stepB cand) fin (fun _ s => ∀ q t, s = some (q, t) → Sm t)
    (fun f s _ => he f s) (fun f s i hi h => hs f s i hi h) (fun s i hi h q t e => by
      rcases stepB_mem e with e | ⟨rfl, e⟩
      · exact h q t e
      · exact hc q t hi e) (m := c + 1) (s := none) (by omega) (fun q t e => by cases e)
  exact this
theorem encB_neg {z : Int} {s : Option (Nat × DFraction)} : decide ((encB z s).1 < 0) = s.isNone := by
  cases s with
  | none => rfl
  | some v => exact decide_eq_false (by simp [encB])
/-! equal shares -/
section
variable {m : Nat} {C : List Nat} {A : List (Nat → Bool)} (h : Elec m C A)
def candE (C : List Nat) (A : List (Nat → Bool)) (os : List Nat) (D : Nat) (X : List Int) (p : Nat) : Option DFraction :=
  if os.contains p = true then none else match prc D ((C[p]! : Int) * D) (srt (own A X p)) with | none => none | some (x, k) => some (fr x (D * k))
theorem has_map {os : List Nat} {p : Nat} : (os.map Int.ofNat).contains (p : Int) = os.contains p := by
  rw [Bool.eq_iff_iff, List.contains_iff_mem, List.contains_iff_mem, List.mem_map]
  constructor
  · rintro ⟨a, ha, e⟩
    have : a = p := by have : (a : Int) = p := e; omega
    rwa [← this]
  · intro h
    exact ⟨p, h, rfl⟩
include h
theorem candE_sm {os : List Nat} {D : Nat} {X : List Int} (hX : Pur D X) (hl : X.length = A.length) {p : Nat} {t : DFraction} (hp : p < C.length) (e : candE C A os D X p = some t) : Sm t := by
  unfold candE at e
  split at e
  · cases e
  · cases q : prc D ((C[p]! : Int) * D) (srt (own A X p)) with
    | none => rw [q] at e; cases e
    | some r =>
      obtain ⟨x, k⟩ := r
      rw [q] at e
      cases e
      obtain ⟨h1, h2, h3, h4⟩ := prc_facts h hX hl hp q
      have := hX.dB
      exact fr_sm (Nat.mul_pos hX.d0 h3) (by have : D * k ≤ 279936 * 6 := Nat.mul_le_mul hX.dB h4; omega) (by omega)
theorem imEqual2 {os : List Nat} (hos : os.length ≤ 6) {D : Nat} {X : List Int} {L : List (List DFraction)} {b : Bool} (hX : Pur D X) (hl : X.length = A.length) :
    F_impl_Election_equal_l2 (ele m C A) (frs D X, L, b) (os.map Int.ofNat) ((ele m C A).fCosts.length + 1) (-1) 0 0 0 = some (encB 0 (best (candE C A os D X) C.length)).1 := by
  have hc := h.c6
  have hol : (os.map Int.ofNat).length ≤ maxLen := by rw [List.length_map]; unfold maxLen; omega
  rw [ele_C]
  refine scan_loop (F := fun f b n d i => F_impl_Election_equal_l2 (ele m C A) (frs D X, L, _) (os.map Int.ofNat) f b n d i) (fun s => some (encB 0 s).1) (fun p t hp e => candE_sm h hX hl hp e) (fun f s => ?_) (fun f s p hp hs => ?_)
  · show F_impl_Election_equal_l2 _ _ _ _ _ _ _ _ = _
    rw [F_impl_Election_equal_l2.eq_2, ele_C, dlt_f (by omega)]; rfl
  · show F_impl_Election_equal_l2 _ _ _ _ _ _ _ _ = F_impl_Election_equal_l2 _ _ _ _ _ _ _ _
    rw [F_impl_Election_equal_l2.eq_2, ele_C, dlt_t hp, cond_true, imPrice h hX hl hp, Option.bind_some, W_succ (n := C.length) hp (by unfold maxLen; omega), imContains _ _ hol, has_map, encB_neg]
    unfold stepB
    cases q : prc D ((C[p]! : Int) * D) (srt (own A X p)) with
    | none =>
      have : candE C A os D X p = none := by unfold candE; rw [q]; split <;> rfl
      rw [this]
      rfl
    | some r =>
      obtain ⟨x, k⟩ := r
      simp only [outP, cond_true, Option.bind_some]
      cases q2 : os.contains p
      · have hcd : candE C A os D X p = some (fr x (D * k)) := by unfold candE; rw [q, q2]; rfl
        rw [hcd]
        have hsm := candE_sm h hX hl hp hcd
        simp only [Bool.not_false, cond_true]
        cases s with
        | none => rfl
        | some v =>
          obtain ⟨q3, u⟩ := v
          have hu := hs q3 u rfl
          have e1 : DFraction.mk (fr x (D * k)).fNum (fr x (D * k)).fDen = fr x (D * k) := rfl
          have e2 : DFraction.mk (encB 0 (some (q3, u))).2.1 (encB 0 (some (q3, u))).2.2 = u := rfl
          simp only [Option.isNone_some, cond_false]
          rw [e1, e2, imCmp hsm hu, Option.bind_some, Option.bind_some]
          by_cases q4 : cmpF (fr x (D * k)) u < 0
          · rw [decide_eq_true q4, if_pos q4]; rfl
          · rw [decide_eq_false q4, if_neg q4]; rfl
      · have hcd : candE C A os D X p = none := by unfold candE; rw [q2]; rfl
        rw [hcd]
        rfl
theorem spEqual2 {os : List Nat} (hos : os.length ≤ 6) {D : Nat} {X : List Int} {L : List (List DFraction)} {b : Bool} (hX : Pur D X) (hl : X.length = A.length) :
    F_spec_l05Equal_l2 (ele m C A) (os.map Int.ofNat) (L, frs D X, b) ((ele m C A).fCosts.length + 1) (-1) 0 1 0 = match best (candE C A os D X) C.length with | none => some (Sum.inl (os.map Int.ofNat)) | some (q, _) => some (Sum.inr ((os ++ [q]).map Int.ofNat)) := by
  have hc := h.c6
  have hol : (os.map Int.ofNat).length ≤ maxLen := by rw [List.length_map]; unfold maxLen; omega
  rw [ele_C]
  refine scan_loop (F := fun f b n d i => F_spec_l05Equal_l2 (ele m C A) (os.map Int.ofNat) (L, frs D X, _) f b n d i) (fun s => match s with | none => some (Sum.inl (os.map Int.ofNat)) | some (q, _) => some (Sum.inr ((os ++ [q]).map Int.ofNat))) (fun p t hp e => candE_sm h hX hl hp e) (fun f s => ?_) (fun f s p hp hs => ?_)
  · show F_spec_l05Equal_l2 _ _ _ _ _ _ _ _ = _
    rw [F_spec_l05Equal_l2.eq_2, ele_C, dlt_f (by omega), cond_false, encB_neg]
    cases s with
    | none => rfl
    | some v =>
      obtain ⟨q, u⟩ := v
      simp only [Option.isNone_some, cond_false]
      rw [app_ok (by rw [List.length_map]; simp [encB]; omega), List.map_append]
      rfl
  · show F_spec_l05Equal_l2 _ _ _ _ _ _ _ _ = F_spec_l05Equal_l2 _ _ _ _ _ _ _ _
    rw [F_spec_l05Equal_l2.eq_2, ele_C, dlt_t hp, cond_true, spHas _ _ hol, has_map, Option.bind_some, spPrice h hX hl hp, Option.bind_some, W_succ (n := C.length) hp (by unfold maxLen; omega), encB_neg]
    unfold stepB
    cases q2 : os.contains p
    · rw [cond_false]
      cases q : prc D ((C[p]! : Int) * D) (srt (own A X p)) with
      | none =>
        have : candE C A os D X p = none := by unfold candE; rw [q, q2]; rfl
        rw [this]
        rfl
      | some r =>
        obtain ⟨x, k⟩ := r
        have hcd : candE C A os D X p = some (fr x (D * k)) := by unfold candE; rw [q, q2]; rfl
        rw [hcd]
        have hsm := candE_sm h hX hl hp hcd
        simp only [outP, cond_true]
        cases s with
        | none => rfl
        | some v =>
          obtain ⟨q3, u⟩ := v
          have hu := hs q3 u rfl
          have e1 : DFraction.mk (fr x (D * k)).fNum (fr x (D * k)).fDen = fr x (D * k) := rfl
          have e2 : DFraction.mk (encB 1 (some (q3, u))).2.1 (encB 1 (some (q3, u))).2.2 = u := rfl
          simp only [Option.isNone_some, cond_false]
          rw [e1, e2, spCmp hsm hu, Option.bind_some, Option.bind_some]
          by_cases q4 : cmpF (fr x (D * k)) u < 0
          · rw [decide_eq_true q4, if_pos q4]; rfl
          · rw [decide_eq_false q4, if_neg q4]; rfl
    · have hcd : candE C A os D X p = none := by unfold candE; rw [q2]; rfl
      rw [hcd, cond_true]
end
end Go.FX
