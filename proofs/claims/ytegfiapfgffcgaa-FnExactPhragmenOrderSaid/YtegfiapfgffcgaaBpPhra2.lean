/- The pure part: what the functions compute, in plain Lean, with no program in sight; no condition. -/
import Derived.Test.YtegfiapfgffcgaaBpPhra1
namespace Go.FX
open Go Go.GL Go.RowKit
def candS (C : List Nat) (A : List (Nat → Bool)) (os : List Nat) (left : Int) (D : Nat) (X : List Int) (p : Nat) : Option DFraction :=
  if os.contains p = true then none else if (C[p]! : Int) > left then none else if kk A p = 0 then none else some (tim C A D X p)
def candI (C : List Nat) (A : List (Nat → Bool)) (done : List Nat) (D : Nat) (X : List Int) (p : Nat) : Option DFraction :=
  if done.contains p = true then none else if kk A p = 0 then none else some (tim C A D X p)
theorem candI_some {C : List Nat} {A : List (Nat → Bool)} {done : List Nat} {D : Nat} {X : List Int} {p : Nat} {t : DFraction} (e : candI C A done D X p = some t) : done.contains p = false ∧ 0 < kk A p ∧ t = tim C A D X p := by
  unfold candI at e
  split at e
  · cases e
  · rename_i q
    split at e
    · cases e
    · rename_i q2
      cases e
      exact ⟨Bool.eq_false_iff.2 q, by omega, rfl⟩
theorem candS_some {C : List Nat} {A : List (Nat → Bool)} {os : List Nat} {left : Int} {D : Nat} {X : List Int} {p : Nat} {t : DFraction} (e : candS C A os left D X p = some t) : os.contains p = false ∧ (C[p]! : Int) ≤ left ∧ 0 < kk A p ∧ t = tim C A D X p := by
  unfold candS at e
  split at e
  · cases e
  · rename_i q
    split at e
    · cases e
    · rename_i q3
      split at e
      · cases e
      · rename_i q2
        cases e
        exact ⟨Bool.eq_false_iff.2 q, by omega, by omega, rfl⟩
def newT (A : List (Nat → Bool)) (X : List Int) (p : Nat) (n : Int) (k : Nat) : List Int := tab A.length fun i => if likes A p i = true then n else X[i]! * k
theorem newT_len {A : List (Nat → Bool)} {X : List Int} {p : Nat} {n : Int} {k : Nat} : (newT A X p n k).length = A.length := tab_len
def mix2 (A : List (Nat → Bool)) (D : Nat) (X : List Int) (p : Nat) (t : DFraction) (i : Nat) : List DFraction :=
  tab A.length fun j => if ((sup A p).take i).contains (j : Int) = true then t else fr X[j]! D
theorem mix2_0 {A : List (Nat → Bool)} {D : Nat} {X : List Int} {p : Nat} {t : DFraction} (hl : X.length = A.length) : frs D X = mix2 A D X p t 0 := by
  rw [frs_eq, hl]
  exact tab_congr fun i _ => by rw [if_neg (by simp)]
theorem mix2_n {A : List (Nat → Bool)} {D : Nat} {X : List Int} {p : Nat} {n : Int} {k : Nat} (hD : 0 < D) (hk : 0 < k) : mix2 A D X p (fr n (D * k)) (sup A p).length = frs (D * k) (newT A X p n k) := by
  unfold newT
  rw [frs_tab]
  refine tab_congr fun i hi => ?_
  rw [List.take_length]
  unfold sup
  rw [lst_contains, decide_eq_true hi, Bool.true_and]
  by_cases q : likes A p i = true
  · rw [if_pos q, if_pos q]
  · rw [if_neg q, if_neg q, fr_scale hD hk]
theorem mix2_s {A : List (Nat → Bool)} {D : Nat} {X : List Int} {p : Nat} {t : DFraction} {i v : Nat} (hi : i < (sup A p).length) (hv : (sup A p)[i] = (v : Int)) : (mix2 A D X p t i).set v t = mix2 A D X p t (i + 1) := by
  unfold mix2
  rw [set_tab]
  refine tab_congr fun j _ => ?_
  rw [← List.take_append_getElem hi, hv]
  by_cases e : j = v
  · rw [if_pos e, if_pos (by rw [List.contains_iff_mem, List.mem_append]; exact .inr (by rw [e]; simp))]
  · rw [if_neg e]
    have : (((sup A p).take i ++ [(v : Int)]).contains (j : Int)) = ((sup A p).take i).contains (j : Int) := by
      rw [Bool.eq_iff_iff, List.contains_iff_mem, List.contains_iff_mem, List.mem_append, List.mem_singleton]
      exact ⟨fun h => h.resolve_right (by omega), .inl⟩
    rw [this]
theorem Tim.new {r D : Nat} {A : List (Nat → Bool)} {X : List Int} {p : Nat} {n : Int} {k : Nat} (h : Tim r D X) (hl : X.length = A.length) (h0 : 0 ≤ n) (hn : n ≤ 60 * (r + 1 : Nat) * (D * k : Nat)) (hk : 0 < k) (hk6 : k ≤ 6) : Tim (r + 1) (D * k) (newT A X p n k) := by
  refine ⟨Nat.mul_pos h.d0 hk, by rw [Nat.pow_succ]; exact Nat.mul_le_mul h.dB hk6, fun y hy => ?_, fun y hy => ?_⟩
  · obtain ⟨i, hi, rfl⟩ := List.mem_map.1 hy
    have hi := List.mem_range.1 hi
    split
    · exact h0
    · exact Int.mul_nonneg (h.nn _ (atX (by omega))) (by omega)
  · obtain ⟨i, hi, rfl⟩ := List.mem_map.1 hy
    have hi := List.mem_range.1 hi
    split
    · exact hn
    · have h1 := h.up _ (atX (X := X) (i := i) (by omega))
      have h2 : X[i]! * (k : Int) ≤ 60 * r * D * k := Int.mul_le_mul_of_nonneg_right h1 (by omega)
      have h3 : (60 : Int) * r * D * k = ((60 * r * (D * k) : Nat) : Int) := by simp only [Int.natCast_mul, Int.mul_assoc]; rfl
      have h4 : (60 : Int) * (r + 1 : Nat) * (D * k : Nat) = ((60 * (r + 1) * (D * k) : Nat) : Int) := by simp only [Int.natCast_mul]; rfl
      have h5 : 60 * r * (D * k) ≤ 60 * (r + 1) * (D * k) := Nat.mul_le_mul_right _ (Nat.mul_le_mul_left _ (by omega))
      omega
section
variable {m : Nat} {C : List Nat} {A : List (Nat → Bool)} (h : Elec m C A)
include h
theorem spScan {os : List Nat} (hos : os.length ≤ 6) {left : Int} {r D : Nat} {X : List Int} (hT : Tim r D X) (hr : r ≤ 6) (hl : X.length = A.length) :
    F_spec_PhragmenOrder_l3 (ele m C A) (os.map Int.ofNat) left (frs D X) ((ele m C A).fCosts.length + 1) (-1) 0 1 0 = some (encB 1 (best (candS C A os left D X) C.length)) := by
  have hc := h.c6
  have hol : (os.map Int.ofNat).length ≤ maxLen := by rw [List.length_map]; unfold maxLen; omega
  rw [ele_C]
  refine scan_loop (F := fun f b n d i => F_spec_PhragmenOrder_l3 (ele m C A) (os.map Int.ofNat) left (frs D X) f b n d i) (fun s => some (encB 1 s)) (fun p t hp e => ?_) (fun f s => ?_) (fun f s p hp hs => ?_)
  · obtain ⟨-, -, hk, rfl⟩ := candS_some e
    exact (tim_facts h hT hr hl hp hk).2.1
  · show F_spec_PhragmenOrder_l3 _ _ _ _ _ _ _ _ _ = _
    rw [F_spec_PhragmenOrder_l3.eq_2, ele_C, dlt_f (by omega)]; rfl
  · show F_spec_PhragmenOrder_l3 _ _ _ _ _ _ _ _ _ = F_spec_PhragmenOrder_l3 _ _ _ _ _ _ _ _ _
    rw [F_spec_PhragmenOrder_l3.eq_2, ele_C, dlt_t hp, cond_true, spHas _ _ hol, has_map, Option.bind_some, idx_C hp, spSup h hp, Option.bind_some, W_succ (n := C.length) hp (by unfold maxLen; omega), encB_neg]
    have hkk : ((sup A p).length : Int) = (kk A p : Int) := rfl
    rw [hkk]
    unfold stepB
    have hcs : candS C A os left D X p = if os.contains p = true then none else if (C[p]! : Int) > left then none else if kk A p = 0 then none else some (tim C A D X p) := rfl
    rw [getElem!_pos C p hp] at hcs
    by_cases q1 : os.contains p = true
    · rw [if_pos q1] at hcs
      rw [hcs, q1]
      rfl
    · rw [if_neg q1] at hcs
      rw [Bool.eq_false_iff.2 q1, cond_false]
      by_cases q2 : (C[p] : Int) > left
      · rw [if_pos q2] at hcs
        rw [hcs, decide_eq_true q2]
        rfl
      · rw [if_neg q2] at hcs
        rw [decide_eq_false q2, cond_false]
        by_cases q3 : kk A p = 0
        · rw [if_pos q3] at hcs
          rw [hcs, q3]
          rfl
        · rw [if_neg q3] at hcs
          have hk : 0 < kk A p := by omega
          have hsm := (tim_facts h hT hr hl hp hk).2.1
          rw [hcs, beq_eq_false_iff_ne.2 (show (kk A p : Int) ≠ 0 by omega), Option.bind_some, cond_false, spTime h hT hr hl hp hk, Option.bind_some]
          cases s with
          | none => rfl
          | some v =>
            obtain ⟨q4, u⟩ := v
            have hu := hs q4 u rfl
            have e2 : DFraction.mk (encB 1 (some (q4, u))).2.1 (encB 1 (some (q4, u))).2.2 = u := rfl
            simp only [Option.isNone_some, cond_false]
            rw [e2, spCmp hsm hu, Option.bind_some, Option.bind_some]
            by_cases q5 : cmpF (tim C A D X p) u < 0
            · rw [decide_eq_true q5, if_pos q5]; rfl
            · rw [decide_eq_false q5, if_neg q5]; rfl
theorem imScan {os : List Nat} (hos : os.length ≤ 6) {r D : Nat} {X : List Int} (hT : Tim r D X) (hr : r ≤ 6) (hl : X.length = A.length) :
    F_impl_PhragmenOrder_l3 (ele m C A) (os.map Int.ofNat) (frs D X) ((ele m C A).fCosts.length + 1) (-1) 0 0 0 = some (encB 0 (best (candI C A os D X) C.length)) := by
  have hc := h.c6
  have hol : (os.map Int.ofNat).length ≤ maxLen := by rw [List.length_map]; unfold maxLen; omega
  rw [ele_C]
  refine scan_loop (F := fun f b n d i => F_impl_PhragmenOrder_l3 (ele m C A) (os.map Int.ofNat) (frs D X) f b n d i) (fun s => some (encB 0 s)) (fun p t hp e => ?_) (fun f s => ?_) (fun f s p hp hs => ?_)
  · obtain ⟨-, hk, rfl⟩ := candI_some e
    exact (tim_facts h hT hr hl hp hk).2.1
  · show F_impl_PhragmenOrder_l3 _ _ _ _ _ _ _ _ = _
    rw [F_impl_PhragmenOrder_l3.eq_2, ele_C, dlt_f (by omega)]; rfl
  · show F_impl_PhragmenOrder_l3 _ _ _ _ _ _ _ _ = F_impl_PhragmenOrder_l3 _ _ _ _ _ _ _ _
    rw [F_impl_PhragmenOrder_l3.eq_2, ele_C, dlt_t hp, cond_true, imSup h hp, Option.bind_some, imContains _ _ hol, has_map, Option.bind_some, W_succ (n := C.length) hp (by unfold maxLen; omega), encB_neg]
    have hkk : ((sup A p).length : Int) = (kk A p : Int) := rfl
    unfold stepB
    have hcs : candI C A os D X p = if os.contains p = true then none else if kk A p = 0 then none else some (tim C A D X p) := rfl
    by_cases q1 : os.contains p = true
    · rw [if_pos q1] at hcs
      rw [hcs, q1]
      rfl
    · rw [if_neg q1] at hcs
      rw [Bool.eq_false_iff.2 q1, cond_false, hkk, Option.bind_some]
      by_cases q3 : kk A p = 0
      · rw [if_pos q3] at hcs
        rw [hcs, q3]
        rfl
      · rw [if_neg q3] at hcs
        have hk : 0 < kk A p := by omega
        have hsm := (tim_facts h hT hr hl hp hk).2.1
        rw [hcs, beq_eq_false_iff_ne.2 (show (kk A p : Int) ≠ 0 by omega), cond_false, idx_C hp]
        simp only [F_impl_whole, Option.bind_some]
        have hit := imTime h hT hr hl hp hk (β := Int × Int × Int) (K := fun x537 x538 =>
          Option.bind (bif s.isNone then some true else (F_impl_Fraction_compare (DFraction.mk x537 x538) (DFraction.mk (encB 0 s).2.1 (encB 0 s).2.2)).bind fun x643 => some (decide (x643 < 0))) fun q632 =>
            bif q632 then some ((p : Int), x537, x538) else some ((encB 0 s).1, (encB 0 s).2.1, (encB 0 s).2.2))
        rw [hkk] at hit
        refine (congrArg (fun o : Option (Int × Int × Int) => o.bind fun (x401, x402, x403) => F_impl_PhragmenOrder_l3 (ele m C A) (os.map Int.ofNat) (frs D X) f x401 x402 x403 ((p + 1 : Nat) : Int)) hit).trans ?_
        cases s with
        | none => rfl
        | some v =>
          obtain ⟨q4, u⟩ := v
          have hu := hs q4 u rfl
          have e2 : DFraction.mk (encB 0 (some (q4, u))).2.1 (encB 0 (some (q4, u))).2.2 = u := rfl
          have e3 : DFraction.mk (tim C A D X p).fNum (tim C A D X p).fDen = tim C A D X p := rfl
          simp only [Option.isNone_some, cond_false]
          rw [e2, e3, imCmp hsm hu, Option.bind_some, Option.bind_some]
          by_cases q5 : cmpF (tim C A D X p) u < 0
          · rw [decide_eq_true q5, if_pos q5]; rfl
          · rw [decide_eq_false q5, if_neg q5]; rfl
theorem set_loop {τ : Type} {D : Nat} {X : List Int} (hl : X.length = A.length) {p : Nat} (hD : 0 < D) (hk : 0 < kk A p) {n : Int} {F : Nat → List DFraction → Int → Option τ} {fin : List DFraction → Option τ}
    (hF : ∀ f l i, F (f + 1) l i = bif decide (i < ((sup A p).length : Int)) then (idx (sup A p) i fun v => idx l v fun _ => F f (l.set v.toNat (fr n (D * kk A p))) (IntKind.i64.wrap (i + 1))) else fin l) :
    F ((sup A p).length + 1) (frs D X) 0 = fin (frs (D * kk A p) (newT A X p n (kk A p))) := by
  have hk6 : (sup A p).length ≤ 6 := kk6 h
  rw [mix2_0 (p := p) (t := fr n (D * kk A p)) hl, ← mix2_n hD hk]
  refine st_loop (n := (sup A p).length) (F := F) (mix2 A D X p (fr n (D * kk A p))) (fun f => ?_) (fun i f hi => ?_) (by omega)
  · rw [hF, dlt_f (by omega)]; rfl
  · obtain ⟨j, ej, hj, -⟩ := sup_mem (List.getElem_mem hi)
    have hm : (mix2 A D X p (fr n (D * kk A p)) i).length = A.length := tab_len
    rw [hF, dlt_t hi, cond_true, idx_nat hi, ej, idx_nat (by rw [hm]; exact hj), Int.toNat_natCast, W_succ hi (by unfold maxLen; omega), mix2_s hi ej]
end
/-- the rounds: order and times -/
def ph (C : List Nat) (A : List (Nat → Bool)) : Nat → Nat → List Int → List Nat → List DFraction → Int → List Nat × List DFraction
  | 0, _, _, os, ts, _ => (os, ts)
  | f + 1, D, X, os, ts, left => match best (candS C A os left D X) C.length with
    | none => (os, ts)
    | some (q, t) => ph C A f (D * kk A q) (newT A X q (tnum C A D X q) (kk A q)) (os ++ [q]) (ts ++ [t]) (left - C[q]!)
section
variable {m : Nat} {C : List Nat} {A : List (Nat → Bool)} (h : Elec m C A)
include h
theorem spPh : ∀ (d f D : Nat) (X : List Int) (os : List Nat) (ts : List DFraction) (left : Int), os.length + d = C.length → d < f → ts.length = os.length → Tim os.length D X → X.length = A.length → 0 ≤ left ∧ left ≤ 360 →
    F_spec_PhragmenOrder_l2 (ele m C A) f (frs D X) (os.map Int.ofNat) ts left ((os.length : Nat) : Int) = some ((ph C A d D X os ts left).1.map Int.ofNat, (ph C A d D X os ts left).2, true) := by
  have hc := h.c6
  intro d
  induction d with
  | zero =>
    intro f D X os ts left hd hf ht hT hl hL
    obtain ⟨f, rfl⟩ : ∃ g, f = g + 1 := ⟨f - 1, by omega⟩
    rw [F_spec_PhragmenOrder_l2.eq_2, ele_C, dlt_f (by omega)]
    rfl
  | succ d ih =>
    intro f D X os ts left hd hf ht hT hl hL
    obtain ⟨f, rfl⟩ : ∃ g, f = g + 1 := ⟨f - 1, by omega⟩
    rw [F_spec_PhragmenOrder_l2.eq_2, ele_C, dlt_t (by omega), cond_true]
    have hs := spScan h (os := os) (left := left) (by omega) hT (by omega) hl
    rw [ele_C] at hs
    rw [hs, Option.bind_some, W_succ (n := C.length) (by omega) (by unfold maxLen; omega), ph]
    cases hb : best (candS C A os left D X) C.length with
    | none => rfl
    | some v =>
      obtain ⟨q, t⟩ := v
      obtain ⟨hq, hcd⟩ := best_mem hb
      obtain ⟨q1, q2, hk, rfl⟩ := candS_some hcd
      obtain ⟨s1, s2, e, n0, nB⟩ := tim_facts h hT (by omega) hl hq hk
      have hcq := h.cost C[q] (List.getElem_mem hq)
      have ed : decide (((q : Nat) : Int) < 0) = false := decide_eq_false (by omega)
      have e2 : DFraction.mk (tim C A D X q).fNum (tim C A D X q).fDen = tim C A D X q := rfl
      have e0 : encB 1 (some (q, tim C A D X q)) = ((q : Int), (tim C A D X q).fNum, (tim C A D X q).fDen) := rfl
      rw [e0]
      simp only [ed, cond_false]
      rw [app_ok (by rw [List.length_map]; simp; omega), app_ok (by simp; omega), idx_C hq, spSup h hq, Option.bind_some]
      have hset := set_loop h (X := X) hl (p := q) hT.d0 hk (n := tnum C A D X q) (F := F_spec_PhragmenOrder_l4 (sup A q) (tim C A D X q).fNum (tim C A D X q).fDen (os.map Int.ofNat) (q : Int) ts left (C[q] : Int)) (fin := fun l => some (Sum.inr (l, (os.map Int.ofNat ++ [(q : Int)]), (ts ++ [(DFraction.mk (tim C A D X q).fNum (tim C A D X q).fDen)]), (IntKind.i64.wrap (left - C[q]))))) (fun f l i => by rw [F_spec_PhragmenOrder_l4.eq_2]; rfl)
      rw [hset, e2, Option.bind_some]
      simp only [sumK]
      rw [getElem!_pos C q hq] at q2 ⊢
      rw [W_id (by omega) (by omega)]
      have := ih f (D * kk A q) (newT A X q (tnum C A D X q) (kk A q)) (os ++ [q]) (ts ++ [tim C A D X q]) (left - C[q]) (by simp; omega) (by omega) (by simp [ht]) (by rw [List.length_append]; exact hT.new hl n0 nB hk (kk6 h)) newT_len (by omega)
      rw [List.map_append, List.length_append] at this
      exact this
theorem imPh : ∀ (d f D : Nat) (X : List Int) (os : List Nat) (ts : List DFraction) (left : Int) (done : List Nat), done.length + d = C.length → d + 1 < f → ts.length = os.length → Tim os.length D X → X.length = A.length → 0 ≤ left ∧ left ≤ 360 →
    done.Nodup → (∀ p ∈ done, p < C.length) → (∀ p ∈ os, p ∈ done) → (∀ p ∈ done, p ∈ os ∨ (C[p]! : Int) > left) → os.Nodup →
    F_impl_PhragmenOrder_l2 (ele m C A) f (frs D X) (os.map Int.ofNat) ts left (done.map Int.ofNat) = some ((ph C A (C.length - os.length) D X os ts left).1.map Int.ofNat, (ph C A (C.length - os.length) D X os ts left).2, true) := by
  have hc := h.c6
  intro d
  induction d with
  | zero =>
    intro f D X os ts left done hd hf ht hT hl hL nd hlt hsub hun hno
    obtain ⟨f, rfl⟩ : ∃ g, f = g + 1 := ⟨f - 1, by omega⟩
    have hol : os.length ≤ done.length := hno.length_le_of_subset hsub
    have hfull : ∀ p, p < C.length → done.contains p = true := fun p hp => by
      rw [List.contains_iff_mem]
      apply Classical.byContradiction
      intro hn
      have := (List.nodup_cons.2 ⟨hn, nd⟩).length_le_of_subset (l₂ := List.range C.length) fun q hq => by
        rcases List.mem_cons.1 hq with rfl | hq
        · exact List.mem_range.2 hp
        · exact List.mem_range.2 (hlt q hq)
      rw [List.length_range, List.length_cons] at this
      omega
    rw [F_impl_PhragmenOrder_l2.eq_2, imScan h (by omega) hT (by omega) hl, Option.bind_some, best_none fun p hp => by unfold candI; rw [if_pos (hfull p hp)]]
    have hph : ph C A (C.length - os.length) D X os ts left = (os, ts) := by
      cases e : C.length - os.length with
      | zero => rfl
      | succ k =>
        rw [ph, best_none fun p hp => ?_]
        unfold candS
        rcases hun p (List.contains_iff_mem.1 (hfull p hp)) with hh | hh
        · rw [if_pos (List.contains_iff_mem.2 hh)]
        · rw [if_pos hh]; split <;> rfl
    rw [hph]
    rfl
  | succ d ih =>
    intro f D X os ts left done hd hf ht hT hl hL nd hlt hsub hun hno
    obtain ⟨f, rfl⟩ : ∃ g, f = g + 1 := ⟨f - 1, by omega⟩
    have hol : os.length ≤ done.length := hno.length_le_of_subset hsub
    have hcand : ∀ p, candS C A os left D X p = if (C[p]! : Int) > left then none else candI C A done D X p := fun p => by
      unfold candS candI
      by_cases q1 : (C[p]! : Int) > left
      · rw [if_pos q1, if_pos q1]; split <;> rfl
      · rw [if_neg q1, if_neg q1]
        by_cases q2 : os.contains p = true
        · rw [if_pos q2, if_pos (List.contains_iff_mem.2 (hsub p (List.contains_iff_mem.1 q2)))]
        · rw [if_neg q2]
          by_cases q3 : done.contains p = true
          · rcases hun p (List.contains_iff_mem.1 q3) with hh | hh
            · exact absurd (List.contains_iff_mem.2 hh) q2
            · exact absurd hh q1
          · rw [if_neg q3]
    rw [F_impl_PhragmenOrder_l2.eq_2, imScan h (by omega) hT (by omega) hl, Option.bind_some]
    cases hb : best (candI C A done D X) C.length with
    | none =>
      have hI := best_inv (cand := candI C A done D X) (fun p t e => by
        obtain ⟨-, hk, rfl⟩ := candI_some e
        exact fr_den_pos (Nat.mul_pos hT.d0 hk)) C.length
      rw [hb] at hI
      have hph : ph C A (C.length - os.length) D X os ts left = (os, ts) := by
        cases e : C.length - os.length with
        | zero => rfl
        | succ k =>
          rw [ph, best_none fun p hp => ?_]
          rw [hcand, hI p hp]
          split <;> rfl
      rw [hph]
      rfl
    | some v =>
      obtain ⟨q, t⟩ := v
      obtain ⟨hq, hcd⟩ := best_mem hb
      obtain ⟨q1, hk, rfl⟩ := candI_some hcd
      obtain ⟨s1, s2, e, n0, nB⟩ := tim_facts h hT (by omega) hl hq hk
      have hcq := h.cost C[q] (List.getElem_mem hq)
      have hqd : q ∉ done := fun hh => by rw [List.contains_iff_mem.2 hh] at q1; cases q1
      have nd' : (done ++ [q]).Nodup := by
        rw [List.nodup_append]
        exact ⟨nd, by simp, fun a ha b hb => by rw [List.mem_singleton] at hb; intro e; exact hqd (by rw [← hb, ← e]; exact ha)⟩
      have hlt' : ∀ p ∈ done ++ [q], p < C.length := fun p hp => by
        rcases List.mem_append.1 hp with hp | hp
        · exact hlt p hp
        · rw [List.mem_singleton] at hp; omega
      have ed : decide (((q : Nat) : Int) < 0) = false := decide_eq_false (by omega)
      have e2 : DFraction.mk (tim C A D X q).fNum (tim C A D X q).fDen = tim C A D X q := rfl
      have e0 : encB 0 (some (q, tim C A D X q)) = ((q : Int), (tim C A D X q).fNum, (tim C A D X q).fDen) := rfl
      rw [e0]
      simp only [ed, cond_false]
      rw [app_ok (by rw [List.length_map]; simp; omega), idx_C hq]
      by_cases q2 : (C[q] : Int) > left
      · rw [decide_eq_true q2, cond_true, Option.bind_some]
        simp only [sumK]
        have := ih f D X os ts left (done ++ [q]) (by simp; omega) (by omega) ht hT hl hL nd' hlt' (fun p hp => List.mem_append.2 (.inl (hsub p hp))) (fun p hp => by
          rcases List.mem_append.1 hp with hp | hp
          · exact hun p hp
          · rw [List.mem_singleton] at hp
            rw [hp, getElem!_pos C q hq]
            exact .inr q2) hno
        rw [List.map_append] at this
        exact this
      · rw [decide_eq_false q2, cond_false, idx_C hq, app_ok (by rw [List.length_map]; simp; omega), app_ok (by simp; omega), Option.bind_some, imSup h hq, Option.bind_some]
        have hset := set_loop h (X := X) hl (p := q) hT.d0 hk (n := tnum C A D X q) (F := F_impl_PhragmenOrder_l5 (sup A q) (tim C A D X q).fNum (tim C A D X q).fDen (os.map Int.ofNat) (q : Int) ts (IntKind.i64.wrap (left - C[q])) (done.map Int.ofNat)) (fin := fun l => some (Sum.inr (l, (os.map Int.ofNat ++ [(q : Int)]), (ts ++ [(DFraction.mk (tim C A D X q).fNum (tim C A D X q).fDen)]), (IntKind.i64.wrap (left - C[q])), (done.map Int.ofNat ++ [(q : Int)])))) (fun f l i => by rw [F_impl_PhragmenOrder_l5.eq_2]; rfl)
        rw [hset, e2, Option.bind_some]
        simp only [sumK]
        rw [W_id (by omega) (by omega)]
        have hbS : best (candS C A os left D X) C.length = some (q, tim C A D X q) := best_sub (cand := candI C A done D X) (fun p t e => by
          obtain ⟨-, hk, rfl⟩ := candI_some e
          exact fr_den_pos (Nat.mul_pos hT.d0 hk)) (fun p u hu => by
          rw [hcand] at hu
          split at hu
          · cases hu
          · exact hu) hb (by rw [hcand, if_neg (by rw [getElem!_pos C q hq]; exact q2)]; exact hcd)
        have hqo : q ∉ os := fun hh => hqd (hsub q hh)
        have hno' : (os ++ [q]).Nodup := by
          rw [List.nodup_append]
          exact ⟨hno, by simp, fun a ha b hb => by rw [List.mem_singleton] at hb; intro e; exact hqo (by rw [← hb, ← e]; exact ha)⟩
        have := ih f (D * kk A q) (newT A X q (tnum C A D X q) (kk A q)) (os ++ [q]) (ts ++ [tim C A D X q]) (left - C[q]) (done ++ [q]) (by simp; omega) (by omega) (by simp [ht]) (by rw [List.length_append]; exact hT.new hl n0 nB hk (kk6 h)) newT_len (by omega) nd' hlt' (fun p hp => by
          rcases List.mem_append.1 hp with hp | hp
          · exact List.mem_append.2 (.inl (hsub p hp))
          · exact List.mem_append.2 (.inr hp)) (fun p hp => by
          rcases List.mem_append.1 hp with hp | hp
          · rcases hun p hp with hh | hh
            · exact .inl (List.mem_append.2 (.inl hh))
            · exact .inr (by omega)
          · exact .inl (List.mem_append.2 (.inr hp))) hno'
        have e3 : C.length - os.length = (C.length - (os ++ [q]).length) + 1 := by simp; omega
        rw [e3, ph, hbS]
        simp only
        rw [getElem!_pos C q hq]
        rw [List.map_append, List.map_append] at this
        exact this
omit h in
theorem ph_len : ∀ (d D : Nat) (X : List Int) (os : List Nat) (ts : List DFraction) (left : Int), ts.length = os.length → (ph C A d D X os ts left).1.length ≤ os.length + d ∧ (ph C A d D X os ts left).2.length ≤ os.length + d := by
  intro d
  induction d with
  | zero => intro D X os ts left ht; exact ⟨Nat.le_refl _, by simp [ph, ht]⟩
  | succ d ih =>
    intro D X os ts left ht
    unfold ph
    split
    · exact ⟨by simp, by simp [ht]⟩
    · rename_i q t _
      have := ih (D * kk A q) (newT A X q (tnum C A D X q) (kk A q)) (os ++ [q]) (ts ++ [t]) (left - C[q]!) (by simp [ht])
      simp only [List.length_append, List.length_cons, List.length_nil] at this
      omega
theorem spSince : F_spec_PhragmenOrder_l1 (ele m C A) ((ele m C A).fApprovals.length + 1) [] 0 = some (frs 1 (tab A.length fun _ => 0)) := by
  have ha := h.a6
  rw [ele_A]
  have := app_loop (b := 1) (n := A.length) (F := F_spec_PhragmenOrder_l1 (ele m C A)) (m := A.length + 1) (acc := []) (fun i => [⟨0, 1⟩]) some 0
    (fun j _ => by simp) (fun f acc => by rw [F_spec_PhragmenOrder_l1.eq_2, ele_A, dlt_f (by omega)]; rfl)
    (fun f acc i hi hacc => by rw [F_spec_PhragmenOrder_l1.eq_2, ele_A, dlt_t hi, cond_true, app_ok (by simp; omega), W_succ (n := A.length) hi (by unfold maxLen; omega)]) (by omega) (by simp)
  rw [this, List.nil_append, frs_tab]
  congr 1
  exact (List.map_eq_flatMap ..).symm
theorem imSince : F_impl_PhragmenOrder_l1 (ele m C A) ((ele m C A).fApprovals.length + 1) [] 0 = some (frs 1 (tab A.length fun _ => 0)) := by
  have ha := h.a6
  rw [ele_A]
  have := app_loop (b := 1) (n := A.length) (F := F_impl_PhragmenOrder_l1 (ele m C A)) (m := A.length + 1) (acc := []) (fun i => [⟨0, 1⟩]) some 0
    (fun j _ => by simp) (fun f acc => by rw [F_impl_PhragmenOrder_l1.eq_2, ele_A, dlt_f (by omega)]; rfl)
    (fun f acc i hi hacc => by
      rw [F_impl_PhragmenOrder_l1.eq_2, ele_A, dlt_t hi, cond_true]
      simp only [F_impl_whole, Option.bind_some]
      rw [app_ok (by simp; omega), W_succ (n := A.length) hi (by unfold maxLen; omega)]) (by omega) (by simp)
  rw [this, List.nil_append, frs_tab]
  congr 1
  exact (List.map_eq_flatMap ..).symm
end
theorem eqPhra (e : DElection) (h : smEl e) : ∃ r, F_spec_PhragmenOrder e = some r ∧ F_impl_PhragmenOrder e = some r ∧ r.1.length ≤ 1048576 ∧ r.2.1.length ≤ 1048576 := by
  unfold F_spec_PhragmenOrder F_impl_PhragmenOrder
  rw [spElect e h, imElect e h]
  simp only [Option.bind_some]
  cases q : elOk e
  · exact ⟨_, rfl, rfl, by simp, by simp⟩
  · obtain ⟨m, C, A, rfl, he⟩ := elect_nat q
    have hm := he.money; have hc := he.c6
    have hT : Tim 0 1 (tab A.length fun _ => (0 : Int)) := ⟨by decide, by decide, fun x hx => by
      obtain ⟨i, -, rfl⟩ := List.mem_map.1 hx
      exact Int.le_refl _, fun x hx => by
      obtain ⟨i, -, rfl⟩ := List.mem_map.1 hx
      simp⟩
    simp only [Bool.not_true, cond_false]
    have hM : (ele m C A).fMoney = (m : Int) := rfl
    have h1 := spPh he C.length (C.length + 1) 1 (tab A.length fun _ => (0 : Int)) [] [] (m : Int) (by simp) (by omega) rfl hT tab_len ⟨by omega, by omega⟩
    have h2 := imPh he C.length 1000 1 (tab A.length fun _ => (0 : Int)) [] [] (m : Int) [] (by simp) (by omega) rfl hT tab_len ⟨by omega, by omega⟩ List.nodup_nil (by simp) (by simp) (by simp) List.nodup_nil
    have h3 := ph_len (C := C) (A := A) C.length 1 (tab A.length fun _ => (0 : Int)) [] [] (m : Int) rfl
    simp only [List.length_nil, Nat.sub_zero, Nat.zero_add] at h1 h2 h3
    rw [spSince he, imSince he, Option.bind_some, Option.bind_some, hM, ele_C]
    refine ⟨_, h1, h2, ?_, ?_⟩
    · simp only [List.length_map]; omega
    · simp only; omega
end Go.FX
