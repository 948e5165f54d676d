/- The pure part: what the functions compute, in plain Lean, with no program in sight; no condition. -/
import Derived.Test.YtmeeomkjjnlaoaaRlPure15
namespace Go.FX
open Go Go.GL Go.RowKit
/-! the order by ranked pairs -/
def waitAt (D : List DDuel) (lk : List Bool) (out : List Int) (x : Int) (j : Nat) : Bool := match D[j]?, lk[j]? with
  | some d, some l => l && (d.fSecond == x && !out.contains d.fFirst)
  | _, _ => false
def waits (D : List DDuel) (lk : List Bool) (out : List Int) (x : Int) : Bool := (List.range D.length).any (waitAt D lk out x)
theorem waitAt_at {D : List DDuel} {lk : List Bool} {out : List Int} {x : Int} {j : Nat} (h1 : j < D.length) (h2 : j < lk.length) : waitAt D lk out x j = (lk[j] && (D[j].fSecond == x && !out.contains D[j].fFirst)) := by
  unfold waitAt
  rw [List.getElem?_eq_getElem h1, List.getElem?_eq_getElem h2]
section
variable {n : Nat} {D : List DDuel} {lk : List Bool} {out : List Int} (hD : DOk n D) (hlen : D.length ≤ 100) (hlk : lk.length = D.length)
include hD hlen hlk
theorem spBehind (x : Int) : F_spec_l06Behind D lk (tab n fun i => out.contains (i : Int)) x = some (waits D lk out x) := by
  have key := up (n := D.length) (P := fun i f => F_spec_l06Behind_l1 D lk x (tab n fun i => out.contains (i : Int)) f (i : Int) = some (((List.range D.length).drop i).any (waitAt D lk out x))) (fun f => ?_) (fun i f hi ih => ?_) D.length 0 (D.length + 1) (by omega) (by omega)
  · exact key
  · rw [F_spec_l06Behind_l1.eq_2, dlt_f (by omega), List.drop_of_length_le (by simp)]; rfl
  · have hi2 : i < lk.length := by omega
    obtain ⟨a, b, ha, -, -, ea, -⟩ := hD _ (List.getElem_mem hi)
    rw [F_spec_l06Behind_l1.eq_2, dlt_t hi, cond_true, idx_nat hi2, idx_nat hi, idx_nat hi, ea, idx_tab ha, W_succ hi (by unfold maxLen; omega), ih, List.drop_eq_getElem_cons (i := i) (l := List.range D.length) (by simpa using hi), List.any_cons, List.getElem_range, waitAt_at hi hi2, ea]
    cases lk[i]
    · rfl
    · cases D[i].fSecond == x
      · rfl
      · cases out.contains (a : Int) <;> rfl
omit hD in
theorem imWaits (ho : out.length ≤ 100) (x : Int) : F_impl_RankedOrder_l3 D lk x out (D.length + 1) false 0 = some (waits D lk out x) := by
  have key := up (n := D.length) (P := fun i f => ∀ q : Bool, F_impl_RankedOrder_l3 D lk x out f q (i : Int) = some (q || ((List.range D.length).drop i).any (waitAt D lk out x))) (fun f q => ?_) (fun i f hi ih q => ?_) D.length 0 (D.length + 1) (by omega) (by omega) false
  · exact key
  · rw [F_impl_RankedOrder_l3.eq_2, dlt_f (by omega), List.drop_of_length_le (by simp)]
    simp
  · have hi2 : i < lk.length := by omega
    rw [F_impl_RankedOrder_l3.eq_2, dlt_t hi, cond_true, idx_nat hi, idx_nat hi2, imContains out _ (by unfold maxLen; omega), W_succ hi (by unfold maxLen; omega), List.drop_eq_getElem_cons (i := i) (l := List.range D.length) (by simpa using hi), List.any_cons, List.getElem_range, waitAt_at hi hi2]
    cases q
    · cases lk[i]
      · exact ih false
      · cases D[i].fSecond == x
        · exact ih false
        · cases out.contains D[i].fFirst
          · exact ih true
          · exact ih false
    · simp only [cond_true, Option.bind_some, Bool.true_or]
      rw [ih true, Bool.true_or]
def elig (D : List DDuel) (lk : List Bool) (out : List Int) (x : Int) : Bool := !out.contains x && !waits D lk out x
theorem next_both (h6 : n ≤ 6) (ho : out.length ≤ 100) (cs : List (List Int)) {k : Nat} (hk : k < n) (he : elig D lk out (k : Int) = true) : ∀ m j f1 f2, j + m = k → m < f1 → m < f2 →
    ∃ x : Nat, x < n ∧ elig D lk out (x : Int) = true ∧ F_spec_RankedOrder_l2 (tab n fun i => out.contains (i : Int)) D (lk, cs) f1 (j : Int) = some (x : Int) ∧ F_impl_RankedOrder_l2 (n : Int) D lk out f2 (j : Int) = some (out ++ [(x : Int)]) := by
  have s1 : ∀ j f, j < n → F_spec_RankedOrder_l2 (tab n fun i => out.contains (i : Int)) D (lk, cs) (f + 1) (j : Int) = bif elig D lk out (j : Int) then some (j : Int) else F_spec_RankedOrder_l2 (tab n fun i => out.contains (i : Int)) D (lk, cs) f ((j + 1 : Nat) : Int) := by
    intro j f hj
    rw [F_spec_RankedOrder_l2.eq_2, idx_tab hj, spBehind hD hlen hlk, W_succ hj (by unfold maxLen; omega)]
    unfold elig
    cases out.contains (j : Int)
    · cases waits D lk out (j : Int) <;> rfl
    · rfl
  have s2 : ∀ j f, j < n → F_impl_RankedOrder_l2 (n : Int) D lk out (f + 1) (j : Int) = bif elig D lk out (j : Int) then some (out ++ [(j : Int)]) else F_impl_RankedOrder_l2 (n : Int) D lk out f ((j + 1 : Nat) : Int) := by
    intro j f hj
    rw [F_impl_RankedOrder_l2.eq_2, dlt_t hj, cond_true, imWaits hlen hlk ho, Option.bind_some, imContains out _ (by unfold maxLen; omega), W_succ hj (by unfold maxLen; omega), app_ok (by simp; omega)]
    unfold elig
    cases waits D lk out (j : Int)
    · cases out.contains (j : Int) <;> rfl
    · cases out.contains (j : Int) <;> rfl
  intro m
  induction m with
  | zero =>
    intro j f1 f2 hj h1 h2
    obtain ⟨f1, rfl⟩ : ∃ g, f1 = g + 1 := ⟨f1 - 1, by omega⟩
    obtain ⟨f2, rfl⟩ : ∃ g, f2 = g + 1 := ⟨f2 - 1, by omega⟩
    obtain rfl : j = k := by omega
    refine ⟨j, hk, he, ?_, ?_⟩
    · rw [s1 j f1 hk, he]; rfl
    · rw [s2 j f2 hk, he]; rfl
  | succ m ih =>
    intro j f1 f2 hj h1 h2
    obtain ⟨f1, rfl⟩ : ∃ g, f1 = g + 1 := ⟨f1 - 1, by omega⟩
    obtain ⟨f2, rfl⟩ : ∃ g, f2 = g + 1 := ⟨f2 - 1, by omega⟩
    have hjn : j < n := by omega
    rw [s1 j f1 hjn, s2 j f2 hjn]
    cases hc : elig D lk out (j : Int) with
    | true => exact ⟨j, hjn, hc, rfl, rfl⟩
    | false => exact ih (j + 1) f1 f2 (by omega) (by omega) (by omega)
omit hlen in
theorem some_elig (hR : Ranked n D lk) (ho : out.length < n) : ∃ k, k < n ∧ elig D lk out (k : Int) = true := by
  obtain ⟨rk, hrk⟩ := hR
  have key : ∀ v x, x < n → rk x = v → out.contains (x : Int) = false → ∃ k, k < n ∧ elig D lk out (k : Int) = true := by
    intro v
    induction v using Nat.strongRecOn with
    | ind v ih =>
      intro x hx hv hc
      cases hw : waits D lk out (x : Int) with
      | false => exact ⟨x, hx, by unfold elig; rw [hc, hw]; rfl⟩
      | true =>
        unfold waits at hw
        rw [List.any_eq_true] at hw
        obtain ⟨j, hj, hjw⟩ := hw
        have hj := List.mem_range.1 hj
        have hj2 : j < lk.length := by omega
        rw [waitAt_at hj hj2, Bool.and_eq_true, Bool.and_eq_true] at hjw
        obtain ⟨a, b, ha, hb, -, ea, eb⟩ := hD _ (List.getElem_mem hj)
        rw [ea, eb] at hjw
        obtain ⟨h1, h2, h3⟩ := hjw
        have hbx : b = x := by have := beq_iff_eq.1 h2; omega
        subst hbx
        have hlt := hrk a b ha hb (by
          unfold lockE
          rw [List.any_eq_true]
          exact ⟨j, List.mem_range.2 hj2, by rw [edgeAt_at hj hj2, ea, eb, h1, beq_self_eq_true, beq_self_eq_true]; rfl⟩)
        exact ih (rk a) (by omega) a ha rfl (by simpa using h3)
  refine Classical.byContradiction fun hno => ?_
  have hall : ∀ x, x < n → out.contains (x : Int) = true := fun x hx => by
    cases hc : out.contains (x : Int) with
    | true => rfl
    | false => exact absurd (key (rk x) x hx rfl hc) hno
  have hnd : ((List.range n).map Int.ofNat).Nodup := List.Pairwise.map _ (fun a b hab e => hab (Int.ofNat.inj e)) (List.nodup_range (n := n))
  have := hnd.length_le_of_subset (l₂ := out) fun y hy => by
    obtain ⟨x, hx, rfl⟩ := List.mem_map.1 hy
    exact List.contains_iff_mem.1 (hall x (List.mem_range.1 hx))
  rw [List.length_map, List.length_range] at this
  omega
end
theorem order_loop {n : Nat} {D : List DDuel} {lk : List Bool} {p : DProfile} (hD : DOk n D) (hlen : D.length ≤ 100) (hlk : lk.length = D.length) (hR : Ranked n D lk) (h6 : n ≤ 6) (hopt : F_impl_Profile_options p = some (n : Int)) (cs : List (List Int)) : ∀ m (out : List Int) f1 f2, out.length + m = n → m < f1 → m < f2 →
    ∃ r, F_spec_RankedOrder_l1 (n : Int) D (lk, cs) f1 (tab n fun i => out.contains (i : Int)) out = some (r, true) ∧ F_impl_RankedOrder_l1 p D lk f2 out = some (r, true) ∧ r.length ≤ n := by
  intro m
  induction m with
  | zero =>
    intro out f1 f2 ho h1 h2
    obtain ⟨f1, rfl⟩ : ∃ g, f1 = g + 1 := ⟨f1 - 1, by omega⟩
    obtain ⟨f2, rfl⟩ : ∃ g, f2 = g + 1 := ⟨f2 - 1, by omega⟩
    rw [F_spec_RankedOrder_l1.eq_2, F_impl_RankedOrder_l1.eq_2, hopt, Option.bind_some, dlt_f (by omega)]
    exact ⟨out, rfl, rfl, by omega⟩
  | succ m ih =>
    intro out f1 f2 ho h1 h2
    obtain ⟨f1, rfl⟩ : ∃ g, f1 = g + 1 := ⟨f1 - 1, by omega⟩
    obtain ⟨f2, rfl⟩ : ∃ g, f2 = g + 1 := ⟨f2 - 1, by omega⟩
    obtain ⟨k, hk, he⟩ := some_elig (out := out) hD hlk hR (by omega)
    obtain ⟨x, hx, -, e1, e2⟩ := next_both hD hlen hlk h6 (out := out) (by omega) cs hk he k 0 1000 (Int.toNat ((n : Int) - 0) + 2) (by omega) (by omega) (by omega)
    rw [show ((0 : Nat) : Int) = 0 from rfl] at e1 e2
    have hset : List.set (tab n fun i => out.contains (i : Int)) (Int.toNat (x : Int)) true = tab n fun i => (out ++ [(x : Int)]).contains (i : Int) := by
      rw [Int.toNat_natCast, set_tab]
      refine tab_congr fun i hi => ?_
      rw [Bool.eq_iff_iff, List.contains_iff_mem, List.mem_append, List.mem_singleton]
      by_cases hix : i = x
      · rw [if_pos hix]
        exact ⟨fun _ => .inr (by rw [hix]), fun _ => rfl⟩
      · rw [if_neg hix, List.contains_iff_mem]
        exact ⟨fun h => .inl h, fun h => h.elim id fun h => absurd (by omega) hix⟩
    rw [F_spec_RankedOrder_l1.eq_2, F_impl_RankedOrder_l1.eq_2, hopt, Option.bind_some, Option.bind_some, dlt_t (by omega), cond_true, cond_true, e1, e2, Option.bind_some, Option.bind_some, idx_tab hx, app_ok (by simp; omega), hset]
    exact ih (out ++ [(x : Int)]) f1 f2 (by simp; omega) (by omega) (by omega)
theorem eqRanked (p : DProfile) (h : smP p) : ∃ r, F_spec_RankedOrder p = some r ∧ F_impl_RankedOrder p = some r ∧ r.1.length ≤ 1048576 := by
  unfold F_spec_RankedOrder F_impl_RankedOrder
  rw [spProfile p h, imProfile p h]
  simp only [Option.bind_some]
  cases q : profOk p
  · exact ⟨_, rfl, rfl, by simp⟩
  · obtain ⟨n, R, T, rfl, hp, hn⟩ := prof_nat q
    obtain ⟨res, cs, e1, e2, e3, e4⟩ := bothLocks hp
    have h6 := hp.n6
    have hl := duels_len hp.n6 (M := pairM R T)
    have hc : F_spec_l06Count (prof R T) = some (n : Int) := by
      have := spCount (p := prof R T) (by rw [prof_len]; have := hp.r1; omega)
      rw [this, hn]
    simp only [Bool.not_true, cond_false]
    rw [hc, Option.bind_some, spPairs hp, Option.bind_some, spDuels hp.n6, Option.bind_some, e1, Option.bind_some, imDuels hp, Option.bind_some, e2]
    obtain ⟨r, r1, r2, r3⟩ := order_loop (D := duels n (pairM R T)) (lk := res) (p := prof R T) duels_ok (by omega) e3 e4 h6 (imOptions hp) cs n [] (Int.toNat ((n : Int) - 0) + 2) 1000 (by simp) (by omega) (by omega)
    refine ⟨(r, true), ?_, r2, by show r.length ≤ 1048576; omega⟩
    unfold mk
    rw [grd_eq (decide_eq_true (by omega)), grd_eq (decide_eq_true (by omega))]
    have : List.replicate (Int.toNat (n : Int)) false = tab n fun i => ([] : List Int).contains (i : Int) := by
      rw [Int.toNat_natCast]
      unfold tab
      rw [show (fun i : Nat => ([] : List Int).contains (i : Int)) = fun _ => false from rfl, List.map_const', List.length_range]
    rw [this]
    exact r1
end Go.FX
