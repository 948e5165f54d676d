/- The pure part: what the functions compute, in plain Lean, with no program in sight; no condition. -/
import Derived.Test.YtegfiapfgffcgaaBeEqual1
namespace Go.FX
open Go Go.GL Go.RowKit
theorem run_snoc {C : List Nat} {A : List (Nat → Bool)} {q : Nat} : ∀ {os : List Nat} {D : Nat} {X : List Int}, run C A D X (os ++ [q]) = match run C A D X os with
    | none => none
    | some ((D', X'), L) => match prc D' ((C[q]! : Int) * D') (srt (own A X' q)) with
      | none => none
      | some (x, k) => some ((D' * k, newN A X' q x k), L ++ [frs (D' * k) (payN A X' q x k)]) := by
  intro os
  induction os with
  | nil =>
    intro D X
    simp only [List.nil_append, run]
    cases prc D ((C[q]! : Int) * D) (srt (own A X q)) <;> rfl
  | cons p os ih =>
    intro D X
    rw [List.cons_append, run, run]
    cases e : prc D ((C[p]! : Int) * D) (srt (own A X p)) with
    | none => rfl
    | some r =>
      obtain ⟨x, k⟩ := r
      simp only
      rw [ih]
      cases e2 : run C A (D * k) (newN A X p x k) os with
      | none => rfl
      | some s =>
        obtain ⟨⟨D', X'⟩, L⟩ := s
        simp only
        cases e3 : prc D' ((C[q]! : Int) * D') (srt (own A X' q)) with
        | none => rfl
        | some r => rfl
/-- the order of equal shares, from one that is begun -/
def eqs (m : Nat) (C : List Nat) (A : List (Nat → Bool)) : Nat → List Nat → List Nat
  | 0, os => os
  | f + 1, os => match runO m C A os with
    | none => os
    | some ((D, X), _) => match best (candE C A os D X) C.length with
      | none => os
      | some (q, _) => eqs m C A f (os ++ [q])
structure Good (m : Nat) (C : List Nat) (A : List (Nat → Bool)) (os : List Nat) : Prop where
  lt : ∀ p ∈ os, p < C.length
  nd : os.Nodup
  ok : (runO m C A os).isSome = true
theorem Good.len {m : Nat} {C : List Nat} {A : List (Nat → Bool)} {os : List Nat} (h : Good m C A os) : os.length ≤ C.length := by
  have := h.nd.length_le_of_subset (l₂ := List.range C.length) fun p hp => List.mem_range.2 (h.lt p hp)
  rwa [List.length_range] at this
theorem Good.full {m : Nat} {C : List Nat} {A : List (Nat → Bool)} {os : List Nat} (h : Good m C A os) (hl : os.length = C.length) {p : Nat} (hp : p < C.length) : os.contains p = true := by
  rw [List.contains_iff_mem]
  apply Classical.byContradiction
  intro hn
  have hnd : (p :: os).Nodup := List.nodup_cons.2 ⟨hn, h.nd⟩
  have := hnd.length_le_of_subset (l₂ := List.range C.length) fun q hq => by
    rcases List.mem_cons.1 hq with rfl | hq
    · exact List.mem_range.2 hp
    · exact List.mem_range.2 (h.lt q hq)
  rw [List.length_range, List.length_cons] at this
  omega
theorem Good.next {m : Nat} {C : List Nat} {A : List (Nat → Bool)} {os : List Nat} (h : Good m C A os) {D : Nat} {X : List Int} {L : List (List DFraction)} (e : runO m C A os = some ((D, X), L)) {q : Nat} {t : DFraction} (hb : best (candE C A os D X) C.length = some (q, t)) : Good m C A (os ++ [q]) := by
  obtain ⟨hq, hc⟩ := best_mem hb
  unfold candE at hc
  by_cases q1 : os.contains q = true
  · rw [if_pos q1] at hc; cases hc
  · rw [if_neg q1] at hc
    have hn : q ∉ os := fun hh => q1 (List.contains_iff_mem.2 hh)
    refine ⟨fun p hp => ?_, ?_, ?_⟩
    · rcases List.mem_append.1 hp with hp | hp
      · exact h.lt p hp
      · rw [List.mem_singleton] at hp; omega
    · rw [List.nodup_append]
      exact ⟨h.nd, by simp, fun a ha b hb => by rw [List.mem_singleton] at hb; intro e; exact hn (by rw [← hb, ← e]; exact ha)⟩
    · unfold runO at e ⊢
      rw [run_snoc, e]
      simp only
      cases q2 : prc D ((C[q]! : Int) * D) (srt (own A X q)) with
      | none => rw [q2] at hc; cases hc
      | some r => rfl
theorem eqs_good {m : Nat} {C : List Nat} {A : List (Nat → Bool)} : ∀ {f : Nat} {os : List Nat}, Good m C A os → Good m C A (eqs m C A f os) := by
  intro f
  induction f with
  | zero => intro os h; exact h
  | succ f ih =>
    intro os h
    unfold eqs
    cases e : runO m C A os with
    | none => exact h
    | some s =>
      obtain ⟨⟨D, X⟩, L⟩ := s
      simp only
      cases e2 : best (candE C A os D X) C.length with
      | none => exact h
      | some v =>
        obtain ⟨q, t⟩ := v
        exact ih (h.next e e2)
section
variable {m : Nat} {C : List Nat} {A : List (Nat → Bool)} (h : Elec m C A)
include h
theorem imEqual1 : ∀ (d : Nat) (os : List Nat) (f : Nat), Good m C A os → os.length + d = C.length → d + 1 < f → F_impl_Election_equal_l1 (ele m C A) f (os.map Int.ofNat) = some ((eqs m C A d os).map Int.ofNat) := by
  have hc := h.c6
  intro d
  induction d with
  | zero =>
    intro os f hg hl hf
    obtain ⟨f, rfl⟩ : ∃ g, f = g + 1 := ⟨f - 1, by omega⟩
    obtain ⟨⟨⟨D, X⟩, L⟩, e⟩ := Option.isSome_iff_exists.1 hg.ok
    obtain ⟨h1, h2⟩ := runO_pur h e hg.lt (by omega)
    rw [F_impl_Election_equal_l1.eq_2, imBought h hg.lt (by omega), e, Option.bind_some]
    simp only [outB, swp]
    rw [imEqual2 h (by omega) h1 h2, Option.bind_some, encB_neg, best_none fun p hp => by unfold candE; rw [if_pos (hg.full (by omega) hp)]]
    rfl
  | succ d ih =>
    intro os f hg hl hf
    obtain ⟨f, rfl⟩ : ∃ g, f = g + 1 := ⟨f - 1, by omega⟩
    obtain ⟨⟨⟨D, X⟩, L⟩, e⟩ := Option.isSome_iff_exists.1 hg.ok
    obtain ⟨h1, h2⟩ := runO_pur h e hg.lt (by omega)
    rw [F_impl_Election_equal_l1.eq_2, imBought h hg.lt (by omega), e, Option.bind_some]
    simp only [outB, swp]
    rw [imEqual2 h (by omega) h1 h2, Option.bind_some, encB_neg, eqs, e]
    simp only
    cases e2 : best (candE C A os D X) C.length with
    | none => rfl
    | some v =>
      obtain ⟨q, t⟩ := v
      simp only [Option.isNone_some, cond_false]
      rw [app_ok (by rw [List.length_map]; simp; omega), Option.bind_some]
      have := ih (os ++ [q]) f (hg.next e e2) (by simp; omega) (by omega)
      rw [List.map_append] at this
      exact this
theorem spEqual1 : ∀ (d : Nat) (os : List Nat) (f : Nat), Good m C A os → os.length + d = C.length → d < f → F_spec_l05Equal_l1 (ele m C A) f (os.map Int.ofNat) ((os.length : Nat) : Int) = some ((eqs m C A d os).map Int.ofNat) := by
  have hc := h.c6
  intro d
  induction d with
  | zero =>
    intro os f hg hl hf
    obtain ⟨f, rfl⟩ : ∃ g, f = g + 1 := ⟨f - 1, by omega⟩
    rw [F_spec_l05Equal_l1.eq_2, ele_C, dlt_f (by omega)]
    rfl
  | succ d ih =>
    intro os f hg hl hf
    obtain ⟨f, rfl⟩ : ∃ g, f = g + 1 := ⟨f - 1, by omega⟩
    obtain ⟨⟨⟨D, X⟩, L⟩, e⟩ := Option.isSome_iff_exists.1 hg.ok
    obtain ⟨h1, h2⟩ := runO_pur h e hg.lt (by omega)
    rw [F_spec_l05Equal_l1.eq_2, ele_C, dlt_t (by omega), cond_true, spBuy h hg.lt (by omega), e, Option.bind_some]
    simp only [outB]
    have h2e := spEqual2 h (os := os) (L := [] ++ L) (b := true) (by omega) h1 h2
    rw [ele_C] at h2e
    rw [h2e, eqs, e, W_succ (n := C.length) (by omega) (by unfold maxLen; omega)]
    simp only
    cases e2 : best (candE C A os D X) C.length with
    | none => rfl
    | some v =>
      obtain ⟨q, t⟩ := v
      have := ih (os ++ [q]) f (hg.next e e2) (by simp; omega) (by omega)
      rw [List.length_append] at this
      exact this
omit h in
theorem good_nil : Good m C A [] := ⟨by simp, List.nodup_nil, rfl⟩
def eqO (m : Nat) (C : List Nat) (A : List (Nat → Bool)) : List Nat := eqs m C A C.length []
omit h in
theorem eqO_good : Good m C A (eqO m C A) := eqs_good good_nil
theorem imEqual : F_impl_Election_equal (ele m C A) = some ((eqO m C A).map Int.ofNat) := by
  have hc := h.c6
  exact imEqual1 h C.length [] 1000 good_nil (by simp) (by omega)
theorem spEqual : F_spec_l05Equal (ele m C A) = some ((eqO m C A).map Int.ofNat) := by
  unfold F_spec_l05Equal
  rw [ele_C]
  exact spEqual1 h C.length [] (C.length + 1) good_nil (by simp) (by omega)
end
theorem eqEqual (e : DElection) (h : smEl e) : ∃ r, F_spec_EqualShares e = some r ∧ F_impl_EqualShares e = some r ∧ r.1.length ≤ 1048576 := by
  unfold F_spec_EqualShares F_impl_EqualShares
  rw [spElect e h, imElect e h]
  simp only [Option.bind_some]
  cases q : elOk e
  · exact ⟨_, rfl, rfl, by simp⟩
  · obtain ⟨m, C, A, rfl, he⟩ := elect_nat q
    simp only [Bool.not_true, cond_false]
    rw [spEqual he, imEqual he]
    have := (eqO_good (m := m) (C := C) (A := A)).len
    have := he.c6
    exact ⟨_, rfl, rfl, by simp; omega⟩
end Go.FX
