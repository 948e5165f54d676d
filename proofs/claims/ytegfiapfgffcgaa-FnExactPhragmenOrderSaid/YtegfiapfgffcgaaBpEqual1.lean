/- The pure part: what the functions compute, in plain Lean, with no program in sight; no condition. -/
import Derived.Test.YtegfiapfgffcgaaBpBuy3
namespace Go.FX
open Go Go.GL Go.RowKit
/-! the best of some candidates -/
def stepB (cand : Nat → Option DFraction) (s : Option (Nat × DFraction)) (p : Nat) : Option (Nat × DFraction) :=
  match cand p with
  | none => s
  | some t => match s with
    | none => some (p, t)
    | some (q, u) => if cmpF t u < 0 then some (p, t) else some (q, u)
def best (cand : Nat → Option DFraction) (c : Nat) : Option (Nat × DFraction) := (List.range c).foldl (stepB cand) none
def encB (z : Int) : Option (Nat × DFraction) → Int × Int × Int
  | none => (-1, 0, z)
  | some (q, t) => ((q : Int), t.fNum, t.fDen)
theorem stepB_mem {cand : Nat → Option DFraction} {s : Option (Nat × DFraction)} {p q : Nat} {t : DFraction} (h : stepB cand s p = some (q, t)) : s = some (q, t) ∨ q = p ∧ cand p = some t := by
  unfold stepB at h
  cases hc : cand p with
  | none => rw [hc] at h; exact .inl h
  | some u =>
    rw [hc] at h
    cases s with
    | none => cases h; exact .inr ⟨rfl, rfl⟩
    | some v =>
      obtain ⟨q', u'⟩ := v
      simp only at h
      split at h
      · cases h; exact .inr ⟨rfl, rfl⟩
      · exact .inl h
theorem best_mem {cand : Nat → Option DFraction} {q : Nat} {t : DFraction} : ∀ {c : Nat}, best cand c = some (q, t) → q < c ∧ cand q = some t := by
  intro c
  induction c with
  | zero => intro h; cases h
  | succ c ih =>
    intro h
    unfold best at h
    rw [List.range_succ, List.foldl_append] at h
    rcases stepB_mem h with h | ⟨rfl, h⟩
    · have := ih h
      exact ⟨by omega, this.2⟩
    · exact ⟨by omega, h⟩
theorem best_none {cand : Nat → Option DFraction} : ∀ {c : Nat}, (∀ p, p < c → cand p = none) → best cand c = none := by
  intro c
  induction c with
  | zero => intro _; rfl
  | succ c ih =>
    intro h
    unfold best
    rw [List.range_succ, List.foldl_append]
    have := ih fun p hp => h p (by omega)
    unfold best at this
    rw [this]
    simp only [List.foldl_cons, List.foldl_nil, stepB, h c (by omega)]
theorem scan_loop {τ : Type} {c : Nat} {z : Int} {cand : Nat → Option DFraction} {F : Nat → Int → Int → Int → Int → Option τ} (fin : Option (Nat × DFraction) → Option τ)
    (hc : ∀ p t, p < c → cand p = some t → Sm t)
    (he : ∀ f s, F (f + 1) (encB z s).1 (encB z s).2.1 (encB z s).2.2 (c : Int) = fin s)
    (hs : ∀ f s p, p < c → (∀ q t, s = some (q, t) → Sm t) → F (f + 1) (encB z s).1 (encB z s).2.1 (encB z s).2.2 (p : Int) = F f (encB z (stepB cand s p)).1 (encB z (stepB cand s p)).2.1 (encB z (stepB cand s p)).2.2 ((p + 1 : Nat) : Int)) :
    F (c + 1) (-1) 0 z 0 = fin (best cand c) := by
  have := fold_range (n := c) (F := fun f s i => F f (encB z s).1 (encB z s).2.1 (encB z s).2.2 i) (stepB cand) fin (fun _ s => ∀ q t, s = some (q, t) → Sm t)
    (fun f s _ => he f s) (fun f s i hi h => hs f s i hi h) (fun s i hi h q t e => by
      rcases stepB_mem e with e | ⟨rfl, e⟩
      · exact h q t e
      · exact hc q t hi e) (m := c + 1) (s := none) (by omega) (fun q t e => by cases e)
  exact this
theorem encB_neg {z : Int} {s : Option (Nat × DFraction)} : decide ((encB z s).1 < 0) = s.isNone := by
  cases s with
  | none => rfl
  | some v => exact decide_eq_false (by simp [encB])
/-! equal shares -/
section
variable {m : Nat} {C : List Nat} {A : List (Nat → Bool)} (h : Elec m C A)
theorem has_map {os : List Nat} {p : Nat} : (os.map Int.ofNat).contains (p : Int) = os.contains p := by
  rw [Bool.eq_iff_iff, List.contains_iff_mem, List.contains_iff_mem, List.mem_map]
  constructor
  · rintro ⟨a, ha, e⟩
    have : a = p := by have : (a : Int) = p := e; omega
    rwa [← this]
  · intro h
    exact ⟨p, h, rfl⟩
include h
end
end Go.FX
