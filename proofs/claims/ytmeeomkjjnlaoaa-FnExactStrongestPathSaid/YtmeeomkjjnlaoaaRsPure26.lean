/- The pure part: what the functions compute, in plain Lean, with no program in sight; no condition. -/
import Derived.Test.YtmeeomkjjnlaoaaRsPure25
namespace Go.FX
open Go Go.GL Go.RowKit
theorem eqStrong (p : DProfile) (a b : Int) (h : smP p) : ∃ r, F_spec_StrongestPath p a b = some r ∧ F_impl_StrongestPath p a b = some r ∧ r.1.length ≤ 1048576 := by
  unfold F_spec_StrongestPath F_impl_StrongestPath F_impl_isOption
  rw [spProfile p h, imProfile p h]
  simp only [Option.bind_some]
  cases q : profOk p
  · exact ⟨_, rfl, rfl, by simp⟩
  · obtain ⟨n, R, T, rfl, hp, hn⟩ := prof_nat q
    have h6 := hp.n6
    have h1 := hp.n1
    have hc : F_spec_l06Count (prof R T) = some (n : Int) := by
      have := spCount (p := prof R T) (by rw [prof_len]; have := hp.r1; omega)
      rw [this, hn]
    unfold F_spec_l06Option
    rw [hc, imOptions hp]
    simp only [Option.bind_some, spIn, imIn, Bool.not_true, cond_false, cond_true]
    cases qa : within a 0 (IntKind.i64.wrap ((n : Int) - 1))
    · exact ⟨_, rfl, rfl, by simp⟩
    · cases qb : within b 0 (IntKind.i64.wrap ((n : Int) - 1))
      · exact ⟨_, rfl, rfl, by simp⟩
      · cases qc : a == b
        · rw [W_id (by omega) (by omega)] at qa qb
          rw [within_iff] at qa qb
          obtain ⟨x, rfl⟩ : ∃ x : Nat, a = (x : Int) := ⟨a.toNat, by omega⟩
          obtain ⟨y, rfl⟩ : ∃ y : Nat, b = (y : Int) := ⟨b.toNat, by omega⟩
          have hx : x < n := by omega
          have hy : y < n := by omega
          have hxy : x ≠ y := fun e => by rw [e, beq_self_eq_true] at qc; cases qc
          have hM : ∀ i k, 0 ≤ pairM R T i k := fun i k => (pair_bd hp i k).1
          simp only [Bool.not_true, cond_false, Option.bind_some]
          rw [spPairs hp, Option.bind_some, spStr h6, Option.bind_some, idx_mat hx, idx_tab hy, imStr hp, Option.bind_some, idx_mat hx, idx_tab hy, imPairs hp, Option.bind_some]
          simp only [Option.bind_some]
          have hst : ∀ (t : Int), 0 ≤ t → ∀ u v, u < n → v < n → F_impl_StrongestPath_1 (u : Int) (v : Int) (mat n (pairM R T)) t = some (decide (pairM R T u v > pairM R T v u) && decide (pairM R T u v ≥ t)) := fun t _ u v hu hv => by
            unfold F_impl_StrongestPath_1
            rw [idx_mat hu, idx_tab hv, idx_mat hv, idx_tab hu, idx_mat hu, idx_tab hv]
            cases decide (pairM R T u v > pairM R T v u) <;> rfl
          have hs0 := strM_nn (n := n) hM hx hy
          by_cases hs : strM n (pairM R T) x y = 0
          · rw [hs]
            have hlk : ∀ u v, u < n → v < n → F_impl_StrongestPath_1 (u : Int) (v : Int) (mat n (pairM R T)) 0 = some (lnk (linkM (pairM R T)) 1 u v) := fun u v hu hv => by
              rw [hst 0 (Int.le_refl _) u v hu hv]
              congr 1
              unfold lnk linkM
              have := hM v u
              by_cases hgt : pairM R T u v > pairM R T v u
              · rw [if_pos hgt, decide_eq_true hgt, decide_eq_true (show pairM R T u v ≥ 0 by omega), decide_eq_true (show pairM R T u v ≥ 1 by omega)]; rfl
              · rw [if_neg hgt, decide_eq_false hgt]; rfl
            have hnr : ¬ Reach n (lnk (linkM (pairM R T)) 1) x y := fun hr => by
              have := strM_pos hx hy hxy hr
              omega
            rw [imShortP hlk h6 hx hy, Option.bind_some, short_none hy hnr n [[(x : Int)]] (fun z hz => by
              rw [List.mem_singleton.1 hz]
              exact ⟨hx, Reach.refl⟩)]
            exact ⟨_, rfl, rfl, by simp⟩
          · have hpos : 0 < strM n (pairM R T) x y := by omega
            have hlk : ∀ u v, u < n → v < n → F_impl_StrongestPath_1 (u : Int) (v : Int) (mat n (pairM R T)) (strM n (pairM R T) x y) = some (lnk (linkM (pairM R T)) (strM n (pairM R T) x y) u v) := fun u v hu hv => by
              rw [hst _ hs0 u v hu hv]
              congr 1
              unfold lnk linkM
              by_cases hgt : pairM R T u v > pairM R T v u
              · rw [if_pos hgt, decide_eq_true hgt, Bool.true_and]
              · rw [if_neg hgt, decide_eq_false hgt, Bool.false_and, decide_eq_false (by omega)]
            obtain ⟨φ, hF, -, hg⟩ := spShort (Lk := linkM (pairM R T)) (t := strM n (pairM R T) x y) h6 hy hx
            have hr := strM_snd (M := pairM R T) x y hx hy hpos
            have hφ : 0 ≤ φ x := by
              have := hr (fun z => 0 ≤ φ z → 0 ≤ φ x) (fun h => h) (fun u v hu hv hC hl h0 => hC (hF.clo u v hu hv hl h0).1)
              rw [hF.good.1] at this
              exact this (Int.le_refl _)
            obtain ⟨l, l1, l2, l3⟩ := hg hφ
            have hlt := good_lt hF.good hx
            have hne : l ≠ [] := fun e => by rw [e] at l2; exact hxy l2
            have hsl := short_least hF hy l n [] [] [(x : Int)] hne (by omega) (by show x < n; exact hx) (by show φ x = (l.length : Int); omega) l2 (fun v hv => ⟨x, List.mem_singleton.1 hv, by omega⟩) (fun z hz => by cases hz) (fun z hz => by cases hz)
            rw [List.nil_append] at hsl
            rw [beq_eq_false_iff_ne.2 hs, cond_false, spLinks h6, Option.bind_some, l3, Option.bind_some, imShortP hlk h6 hx hy, Option.bind_some, hsl]
            refine ⟨((x :: l).map Int.ofNat, true), rfl, rfl, ?_⟩
            show ((x :: l).map Int.ofNat).length ≤ 1048576
            rw [List.length_map, List.length_cons]
            omega
        · exact ⟨_, rfl, rfl, by simp⟩
end Go.FX
