/- The pure part: what the functions compute, in plain Lean, with no program in sight; no condition. -/
import Derived.Test.YtbmeejcmbnjncaaSgPure3
namespace Go.FX
open Go Go.GL Go.RowKit
/-! a statute by the texts of its Ids -/
def Srt (l : List DArticle) : Prop := l.Pairwise (fun a b => a.fId < b.fId) ∧ ∀ a ∈ l, 1 ≤ a.fId ∧ a.fId ≤ 99 ∧ a.fText ≠ []
theorem Srt.tail {a : DArticle} {l : List DArticle} (h : Srt (a :: l)) : Srt l := ⟨(List.pairwise_cons.1 h.1).2, fun b hb => h.2 b (List.mem_cons_of_mem _ hb)⟩
theorem Srt.head {a : DArticle} {l : List DArticle} (h : Srt (a :: l)) : ∀ b ∈ l, a.fId < b.fId := (List.pairwise_cons.1 h.1).1
theorem Srt.nil : Srt [] := ⟨List.Pairwise.nil, fun _ h => by cases h⟩
theorem ft_cons {a : DArticle} {l : List DArticle} {x : Int} : ft (a :: l) x = if a.fId = x then a.fText else ft l x := by
  unfold ft
  rw [List.find?_cons]
  by_cases h : a.fId = x
  · rw [if_pos h, beq_iff_eq.2 h]; rfl
  · rw [if_neg h, beq_eq_false_iff_ne.2 h]
theorem ft_none {l : List DArticle} {x : Int} (h : ∀ a ∈ l, a.fId ≠ x) : ft l x = [] := by
  unfold ft
  rw [List.find?_eq_none.2 fun a ha => by simpa using h a ha]
  rfl
theorem ft_mem {l : List DArticle} (hs : Srt l) {a : DArticle} (ha : a ∈ l) : ft l a.fId = a.fText := by
  induction l with
  | nil => cases ha
  | cons b l ih =>
    rw [ft_cons]
    rcases List.mem_cons.1 ha with rfl | h
    · rw [if_pos rfl]
    · rw [if_neg (by have := hs.head a h; omega), ih hs.tail h]
theorem Srt.ext : ∀ {l m : List DArticle}, Srt l → Srt m → (∀ x, ft l x = ft m x) → l = m := by
  intro l
  induction l with
  | nil =>
    intro m _ hm h
    cases m with
    | nil => rfl
    | cons b m =>
      have := h b.fId
      rw [ft_cons, if_pos rfl] at this
      exact absurd this.symm (hm.2 b (List.mem_cons_self ..)).2.2
  | cons a l ih =>
    intro m hl hm h
    cases m with
    | nil =>
      have := h a.fId
      rw [ft_cons, if_pos rfl] at this
      exact absurd this (hl.2 a (List.mem_cons_self ..)).2.2
    | cons b m =>
      have hab : a.fId = b.fId := by
        rcases Int.lt_trichotomy a.fId b.fId with h1 | h1 | h1
        · have := h a.fId
          rw [ft_cons, if_pos rfl, ft_none (l := b :: m) (fun c hc => by
            rcases List.mem_cons.1 hc with rfl | hc
            · omega
            · have := hm.head c hc; omega)] at this
          exact absurd this (hl.2 a (List.mem_cons_self ..)).2.2
        · exact h1
        · have := h b.fId
          rw [ft_cons (a := b), if_pos rfl, ft_none (l := a :: l) (fun c hc => by
            rcases List.mem_cons.1 hc with rfl | hc
            · omega
            · have := hl.head c hc; omega)] at this
          exact absurd this.symm (hm.2 b (List.mem_cons_self ..)).2.2
      have ht : a.fText = b.fText := by
        have := h a.fId
        rw [ft_cons, if_pos rfl, ft_cons, if_pos hab.symm] at this
        exact this
      have hab2 : a = b := by cases a; cases b; simp_all
      subst hab2
      rw [ih hl.tail hm.tail fun x => ?_]
      by_cases hx : a.fId = x
      · subst hx
        rw [ft_none fun c hc => by have := hl.head c hc; omega, ft_none fun c hc => by have := hm.head c hc; omega]
      · have := h x
        rwa [ft_cons, ft_cons, if_neg hx, if_neg hx] at this
theorem Srt.len {l : List DArticle} (h : Srt l) : l.length ≤ 99 := by
  have hn : (l.map fun a => a.fId.toNat).Nodup := by
    refine List.Pairwise.map _ (fun a b hab => ?_) (List.Pairwise.and_mem.1 h.1)
    have h1 := h.2 a hab.1; have h2 := h.2 b hab.2.1; have h3 := hab.2.2
    omega
  have := hn.length_le_of_subset (l₂ := (List.range 99).map (· + 1)) fun x hx => by
    obtain ⟨a, ha, rfl⟩ := List.mem_map.1 hx
    have := h.2 a ha
    exact List.mem_map.2 ⟨a.fId.toNat - 1, List.mem_range.2 (by omega), by omega⟩
  simpa using this
def one (x : Int) (t : Bytes) : List DArticle := if t = [] then [] else [⟨x, t⟩]
theorem one_mem {x : Int} {t : Bytes} {a : DArticle} (h : a ∈ one x t) : a.fId = x ∧ a.fText = t ∧ t ≠ [] := by
  unfold one at h
  split at h
  · cases h
  · rename_i hn
    rw [List.mem_singleton] at h
    subst h
    exact ⟨rfl, rfl, hn⟩
theorem ft_one {x y : Int} {t : Bytes} : ft (one x t) y = if x = y then t else [] := by
  unfold one
  by_cases ht : t = []
  · rw [if_pos ht, ht]; simp [ft]
  · rw [if_neg ht, ft_cons]; rfl
theorem ft_app {l m : List DArticle} {x : Int} : ft (l ++ m) x = if l.any (fun a => a.fId == x) then ft l x else ft m x := by
  induction l with
  | nil => rfl
  | cons a l ih =>
    rw [List.cons_append, ft_cons, ft_cons, List.any_cons]
    by_cases h : a.fId = x
    · rw [if_pos h, if_pos h, beq_iff_eq.2 h]; rfl
    · rw [if_neg h, if_neg h, beq_eq_false_iff_ne.2 h, Bool.false_or, ih]
/-- a statute in three parts -/
theorem mid_srt {A B : List DArticle} {x : Int} {t : Bytes} (hA : ∀ u ∈ A, u.fId < x) (hB : ∀ u ∈ B, x < u.fId) (sA : Srt A) (sB : Srt B) (hx : 1 ≤ x ∧ x ≤ 99) : Srt (A ++ one x t ++ B) := by
  refine ⟨?_, fun a ha => ?_⟩
  · rw [List.append_assoc, List.pairwise_append]
    refine ⟨sA.1, ?_, fun a ha b hb => ?_⟩
    · rw [List.pairwise_append]
      refine ⟨?_, sB.1, fun a ha b hb => ?_⟩
      · unfold one; split
        · exact List.Pairwise.nil
        · exact List.pairwise_singleton _ _
      · have := (one_mem ha).1; have := hB b hb; omega
    · have h1 := hA a ha
      rcases List.mem_append.1 hb with hb | hb
      · have := (one_mem hb).1; omega
      · have := hB b hb; omega
  · rcases List.mem_append.1 ha with ha | ha
    · rcases List.mem_append.1 ha with ha | ha
      · exact sA.2 a ha
      · obtain ⟨h1, h2, h3⟩ := one_mem ha
        rw [h1, h2]; exact ⟨hx.1, hx.2, h3⟩
    · exact sB.2 a ha
theorem mid_ft {A B : List DArticle} {x : Int} {t : Bytes} (hA : ∀ u ∈ A, u.fId < x) (hB : ∀ u ∈ B, x < u.fId) (M : List DArticle) (hM : ∀ u ∈ M, u.fId = x) {y : Int} : ft (A ++ one x t ++ B) y = if y = x then t else ft (A ++ M ++ B) y := by
  have nA : ∀ {z : Int}, x ≤ z → (A.any fun a => a.fId == z) = false := fun {z} hz => by
    rw [List.any_eq_false]; intro a ha; have := hA a ha; simp; omega
  rw [List.append_assoc, List.append_assoc, ft_app, ft_app (l := A), ft_app, ft_app (l := M), ft_one]
  by_cases hy : y = x
  · subst hy
    rw [nA (Int.le_refl _)]
    simp only [Bool.false_eq_true, if_false, if_true]
    by_cases ht : t = []
    · subst ht
      rw [show one y [] = [] from rfl]
      simp only [List.any_nil, Bool.false_eq_true, if_false]
      exact ft_none fun a ha => by have := hB a ha; omega
    · rw [show one y t = [⟨y, t⟩] from if_neg ht]
      simp
  · rw [if_neg hy, if_neg (Ne.symm hy)]
    have n1 : (one x t).any (fun a => a.fId == y) = false := by
      rw [List.any_eq_false]; intro a ha; have := (one_mem ha).1; simp; omega
    have n2 : M.any (fun a => a.fId == y) = false := by
      rw [List.any_eq_false]; intro a ha; have := hM a ha; simp; omega
    rw [n1, n2]
    simp only [Bool.false_eq_true, if_false]
end Go.FX
