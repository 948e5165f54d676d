/- The pure part: what the functions compute, in plain Lean, with no program in sight; no condition. -/
import Derived.Test.YtegfiapfgffcgaaBpEqual1
namespace Go.FX
open Go Go.GL Go.RowKit
/-! the best of fewer candidates -/
def leF (a b : DFraction) : Prop := a.fNum * b.fDen ≤ b.fNum * a.fDen
theorem leF_trans {a b c : DFraction} (ha : 1 ≤ a.fDen) (hb : 1 ≤ b.fDen) (hc : 1 ≤ c.fDen) (h1 : leF a b) (h2 : leF b c) : leF a c := by
  unfold leF at *
  have e1 : a.fNum * b.fDen * c.fDen ≤ b.fNum * a.fDen * c.fDen := Int.mul_le_mul_of_nonneg_right h1 (by omega)
  have e2 : b.fNum * c.fDen * a.fDen ≤ c.fNum * b.fDen * a.fDen := Int.mul_le_mul_of_nonneg_right h2 (by omega)
  have e3 : a.fNum * c.fDen * b.fDen ≤ c.fNum * a.fDen * b.fDen := by
    have x1 : a.fNum * c.fDen * b.fDen = a.fNum * b.fDen * c.fDen := by rw [Int.mul_assoc, Int.mul_comm c.fDen, ← Int.mul_assoc]
    have x2 : b.fNum * a.fDen * c.fDen = b.fNum * c.fDen * a.fDen := by rw [Int.mul_assoc, Int.mul_comm a.fDen, ← Int.mul_assoc]
    have x3 : c.fNum * a.fDen * b.fDen = c.fNum * b.fDen * a.fDen := by rw [Int.mul_assoc, Int.mul_comm a.fDen, ← Int.mul_assoc]
    omega
  exact Int.le_of_mul_le_mul_right e3 (by omega)
theorem cmp_neg {a b : DFraction} : cmpF a b < 0 ↔ ¬ leF b a := by
  unfold cmpF icmp leF
  split
  · omega
  · split <;> omega
theorem leF_total {a b : DFraction} (h : ¬ leF a b) : leF b a := by
  unfold leF at *
  omega
def BInv (cand : Nat → Option DFraction) (c : Nat) : Option (Nat × DFraction) → Prop
  | none => ∀ p, p < c → cand p = none
  | some (q, t) => q < c ∧ cand q = some t ∧ (∀ p u, p < c → cand p = some u → leF t u) ∧ (∀ p u, p < q → cand p = some u → ¬ leF u t)
theorem best_inv {cand : Nat → Option DFraction} (hp : ∀ p t, cand p = some t → 1 ≤ t.fDen) : ∀ c, BInv cand c (best cand c) := by
  intro c
  induction c with
  | zero => intro p hp; omega
  | succ c ih =>
    unfold best at ih ⊢
    rw [List.range_succ, List.foldl_append]
    simp only [List.foldl_cons, List.foldl_nil]
    generalize (List.range c).foldl (stepB cand) none = s at ih
    unfold stepB
    cases hc : cand c with
    | none =>
      cases s with
      | none =>
        intro p hpc
        by_cases e : p = c
        · rw [e]; exact hc
        · exact ih p (by omega)
      | some v =>
        obtain ⟨q, t⟩ := v
        obtain ⟨a, b, d, e⟩ := ih
        refine ⟨by omega, b, fun p u hpc hu => ?_, e⟩
        by_cases e : p = c
        · rw [e, hc] at hu; cases hu
        · exact d p u (by omega) hu
    | some u =>
      cases s with
      | none =>
        refine ⟨by omega, hc, fun p v hpc hv => ?_, fun p v hpc hv => ?_⟩
        · by_cases e : p = c
          · rw [e, hc] at hv
            cases hv
            exact Int.le_refl _
          · rw [ih p (by omega)] at hv; cases hv
        · rw [ih p hpc] at hv; cases hv
      | some v =>
        obtain ⟨q, t⟩ := v
        obtain ⟨a, b, d, e⟩ := ih
        simp only
        by_cases q1 : cmpF u t < 0
        · rw [if_pos q1]
          have q2 := cmp_neg.1 q1
          have q3 := leF_total q2
          refine ⟨by omega, hc, fun p v hpc hv => ?_, fun p v hpc hv => ?_⟩
          · by_cases e : p = c
            · rw [e, hc] at hv
              cases hv
              exact Int.le_refl _
            · exact leF_trans (hp c u hc) (hp q t b) (hp p v hv) q3 (d p v (by omega) hv)
          · intro hh
            exact q2 (leF_trans (hp q t b) (hp p v hv) (hp c u hc) (d p v hpc hv) hh)
        · rw [if_neg q1]
          have q2 : leF t u := Classical.byContradiction fun hh => q1 (cmp_neg.2 hh)
          refine ⟨by omega, b, fun p v hpc hv => ?_, e⟩
          by_cases e : p = c
          · rw [e, hc] at hv
            cases hv
            exact q2
          · exact d p v (by omega) hv
theorem best_sub {cand cand' : Nat → Option DFraction} {c q : Nat} {t : DFraction} (hp : ∀ p t, cand p = some t → 1 ≤ t.fDen) (hs : ∀ p u, cand' p = some u → cand p = some u) (hb : best cand c = some (q, t)) (hq : cand' q = some t) : best cand' c = some (q, t) := by
  have h1 := best_inv hp c
  have h2 := best_inv (cand := cand') (fun p t h => hp p t (hs p t h)) c
  rw [hb] at h1
  obtain ⟨a1, b1, c1, d1⟩ := h1
  cases e : best cand' c with
  | none =>
    rw [e] at h2
    rw [h2 q a1] at hq
    cases hq
  | some v =>
    obtain ⟨q', t'⟩ := v
    rw [e] at h2
    obtain ⟨a2, b2, c2, d2⟩ := h2
    have l2 := c2 q t a1 hq
    have l1 := c1 q' t' a2 (hs q' t' b2)
    have e1 : q = q' := by
      apply Classical.byContradiction
      intro hne
      by_cases hlt : q' < q
      · exact d1 q' t' hlt (hs q' t' b2) l2
      · exact d2 q t (by omega) hq l1
    subst e1
    rw [hq] at b2
    cases b2
    rfl
/-! times -/
structure Tim (r D : Nat) (X : List Int) : Prop where
  d0 : 0 < D
  dB : D ≤ 6 ^ r
  nn : ∀ x ∈ X, 0 ≤ x
  up : ∀ x ∈ X, x ≤ 60 * r * D
theorem own_sum_b {r D : Nat} {X : List Int} (h : Tim r D X) {L : List Int} (hL : ∀ x ∈ L, x ∈ X) : 0 ≤ L.sum ∧ L.sum ≤ (L.length : Int) * (60 * r * D) := by
  induction L with
  | nil => simp
  | cons x L ih =>
    have h1 := ih fun y hy => hL y (List.mem_cons_of_mem _ hy)
    have h2 := h.nn x (hL x (List.mem_cons_self ..))
    have h3 := h.up x (hL x (List.mem_cons_self ..))
    rw [List.sum_cons, List.length_cons, Int.natCast_add, Int.add_mul]
    simp only [Int.natCast_one, Int.one_mul]
    omega
theorem pow66 {r : Nat} (h : r ≤ 6) : 6 ^ r ≤ 46656 := Nat.le_trans (Nat.pow_le_pow_right (by decide) h) (by decide)
def tnum (C : List Nat) (A : List (Nat → Bool)) (D : Nat) (X : List Int) (p : Nat) : Int := (C[p]! : Int) * D + (own A X p).sum
def tim (C : List Nat) (A : List (Nat → Bool)) (D : Nat) (X : List Int) (p : Nat) : DFraction := fr (tnum C A D X p) (D * kk A p)
section
variable {m : Nat} {C : List Nat} {A : List (Nat → Bool)} (h : Elec m C A)
include h
theorem part_b {r D : Nat} {X : List Int} (hT : Tim r D X) (hr : r ≤ 6) {p : Nat} (hp : p < C.length) {L : List Int} (hL : ∀ x ∈ L, x ∈ X) (hl : L.length ≤ 6) :
    0 ≤ (C[p]! : Int) * D + L.sum ∧ (C[p]! : Int) * D + L.sum ≤ 60 * (r * L.length + 1 : Nat) * D ∧ Sm (fr ((C[p]! : Int) * D + L.sum) D) := by
  have hc := h.cost C[p] (List.getElem_mem hp)
  have hb := own_sum_b hT hL
  have h60 : (C[p]! : Int) * D ≤ 60 * D := Int.mul_le_mul_of_nonneg_right (by rw [getElem!_pos C p hp]; omega) (by omega)
  have h0 : 0 ≤ (C[p]! : Int) * D := Int.mul_nonneg (by omega) (by omega)
  have e : (60 : Int) * (r * L.length + 1 : Nat) * D = (L.length : Int) * (60 * r * D) + 60 * D := by
    rw [Int.natCast_add, Int.natCast_mul, Int.mul_add, Int.add_mul, Int.natCast_one, Int.mul_one]
    congr 1
    simp only [Int.mul_assoc, Int.mul_left_comm, Int.mul_comm]
  have hD := Nat.le_trans hT.dB (pow66 hr)
  have h2 : (60 * (r * L.length + 1)) * D ≤ (60 * (6 * 6 + 1)) * 46656 := Nat.mul_le_mul (Nat.mul_le_mul_left _ (Nat.add_le_add_right (Nat.mul_le_mul hr hl) _)) hD
  have e2 : (60 : Int) * (r * L.length + 1 : Nat) * D = ((60 * (r * L.length + 1) * D : Nat) : Int) := by simp only [Int.natCast_mul]; rfl
  exact ⟨by omega, by omega, fr_sm hT.d0 (by omega) (by omega)⟩
theorem time_loop {r D : Nat} {X : List Int} (hT : Tim r D X) (hr : r ≤ 6) (hl : X.length = A.length) {p : Nat} (hp : p < C.length) {F : Nat → Int → Int → Int → Option (Int × Int)}
    (hE : ∀ f n d, F (f + 1) n d ((sup A p).length : Int) = some (n, d))
    (hF : ∀ f (s : DFraction) i j (hi : i < (sup A p).length) (hj : j < X.length), (sup A p)[i] = (j : Int) → Sm s → Sm (fr X[j] D) → Sm (addF s (fr X[j] D)) → F (f + 1) s.fNum s.fDen (i : Int) = F f (addF s (fr X[j] D)).fNum (addF s (fr X[j] D)).fDen ((i + 1 : Nat) : Int)) :
    F ((sup A p).length + 1) (C[p]! : Int) 1 0 = some ((fr (tnum C A D X p) D).fNum, (fr (tnum C A D X p) D).fDen) := by
  have hk : (sup A p).length ≤ 6 := kk6 h
  have hol : (own A X p).length = (sup A p).length := own_len
  have key : ∀ k i f, i + k = (sup A p).length → k < f → F f (fr ((C[p]! : Int) * D + ((own A X p).take i).sum) D).fNum (fr ((C[p]! : Int) * D + ((own A X p).take i).sum) D).fDen (i : Int) = some ((fr (tnum C A D X p) D).fNum, (fr (tnum C A D X p) D).fDen) := by
    refine up (P := fun i f => F f (fr ((C[p]! : Int) * D + ((own A X p).take i).sum) D).fNum (fr ((C[p]! : Int) * D + ((own A X p).take i).sum) D).fDen (i : Int) = some ((fr (tnum C A D X p) D).fNum, (fr (tnum C A D X p) D).fDen)) (fun f => ?_) (fun i f hi ih => ?_)
    · rw [hE, List.take_of_length_le (by omega)]
      rfl
    · obtain ⟨j, ej, hj, -⟩ := sup_mem (List.getElem_mem hi)
      have hio : i < (own A X p).length := by omega
      have e0 : (own A X p)[i] = X[((sup A p)[i]).toNat]! := List.getElem_map ..
      have e1 : (own A X p)[i] = X[j] := by rw [e0, ej, Int.toNat_natCast, getElem!_pos X j (by omega)]
      have hs : ∀ n, ∀ x ∈ (own A X p).take n, x ∈ X := fun n x hx => own_mem hl (List.mem_of_mem_take hx)
      have s1 := (part_b h hT hr hp (hs i) (by rw [List.length_take]; omega)).2.2
      have s2 := (part_b h hT hr hp (hs (i + 1)) (by rw [List.length_take]; omega)).2.2
      have eadd : addF (fr ((C[p]! : Int) * D + ((own A X p).take i).sum) D) (fr X[j] D) = fr ((C[p]! : Int) * D + ((own A X p).take (i + 1)).sum) D := by
        rw [add_fr hT.d0, ← List.take_append_getElem hio, List.sum_append, e1]
        simp only [List.sum_cons, List.sum_nil, Int.add_zero, Int.add_assoc]
      have s3 : Sm (fr X[j] D) := by
        have b1 := hT.nn _ (List.getElem_mem (show j < X.length by omega)); have b2 := hT.up _ (List.getElem_mem (show j < X.length by omega))
        have hD := Nat.le_trans hT.dB (pow66 hr)
        have h2 : 60 * r * D ≤ 60 * 6 * 46656 := Nat.mul_le_mul (Nat.mul_le_mul_left _ hr) hD
        have e2 : (60 : Int) * r * D = ((60 * r * D : Nat) : Int) := by simp only [Int.natCast_mul]; rfl
        exact fr_sm hT.d0 (by omega) (by omega)
      rw [hF f _ i j hi (by omega) ej s1 s3 (by rw [eadd]; exact s2), eadd]
      exact ih
  have e : (⟨(C[p]! : Int), 1⟩ : DFraction) = fr ((C[p]! : Int) * D) D := whole_fr hT.d0
  have e1 : (fr ((C[p]! : Int) * D) D).fNum = (C[p]! : Int) := by rw [← e]
  have e2 : (fr ((C[p]! : Int) * D) D).fDen = 1 := by rw [← e]
  have := key (sup A p).length 0 ((sup A p).length + 1) (by omega) (by omega)
  simp only [List.take_zero, List.sum_nil, Int.add_zero] at this
  rw [e1, e2] at this
  exact this
theorem tim_facts {r D : Nat} {X : List Int} (hT : Tim r D X) (hr : r ≤ 6) (hl : X.length = A.length) {p : Nat} (hp : p < C.length) (hk : 0 < kk A p) :
    Sm (fr (tnum C A D X p) D) ∧ Sm (tim C A D X p) ∧ over (fr (tnum C A D X p) D) (kk A p) = tim C A D X p ∧ 0 ≤ tnum C A D X p ∧ tnum C A D X p ≤ 60 * (r + 1 : Nat) * (D * kk A p : Nat) := by
  have hk6 : kk A p ≤ 6 := kk6 h
  have hb := part_b h hT hr hp (L := own A X p) (fun x hx => own_mem hl hx) (by rw [own_len]; exact hk6)
  rw [own_len] at hb
  have hD := Nat.le_trans hT.dB (pow66 hr)
  have h3 : r * kk A p + 1 ≤ (r + 1) * kk A p := by rw [Nat.add_mul]; omega
  have h4 : 60 * (r * kk A p + 1) * D ≤ 60 * (r + 1) * (D * kk A p) := by
    have : 60 * (r + 1) * (D * kk A p) = 60 * ((r + 1) * kk A p) * D := by simp only [Nat.mul_assoc, Nat.mul_left_comm, Nat.mul_comm]
    rw [this]
    exact Nat.mul_le_mul_right _ (Nat.mul_le_mul_left _ h3)
  have h5 : 60 * (r + 1) * (D * kk A p) ≤ 60 * 7 * (46656 * 6) := Nat.mul_le_mul (Nat.mul_le_mul_left _ (by omega)) (Nat.mul_le_mul hD hk6)
  have h6 : D * kk A p ≤ 46656 * 6 := Nat.mul_le_mul hD hk6
  have e2 : (60 : Int) * (r * kk A p + 1 : Nat) * D = ((60 * (r * kk A p + 1) * D : Nat) : Int) := by simp only [Int.natCast_mul]; rfl
  have e3 : (60 : Int) * (r + 1 : Nat) * (D * kk A p : Nat) = ((60 * (r + 1) * (D * kk A p) : Nat) : Int) := by simp only [Int.natCast_mul]; rfl
  have ht : tnum C A D X p = (C[p]! : Int) * D + (own A X p).sum := rfl
  rw [ht]
  refine ⟨hb.2.2, fr_sm (Nat.mul_pos hT.d0 hk) (by omega) (by rw [ht]; omega), over_fr hT.d0 hk, hb.1, by omega⟩
theorem spTime {r D : Nat} {X : List Int} (hT : Tim r D X) (hr : r ≤ 6) (hl : X.length = A.length) {p : Nat} (hp : p < C.length) (hk : 0 < kk A p) : F_spec_l05Time (ele m C A) (frs D X) (p : Int) = some (tim C A D X p) := by
  obtain ⟨s1, s2, e, -, -⟩ := tim_facts h hT hr hl hp hk
  have hk6 : kk A p ≤ 6 := kk6 h
  unfold F_spec_l05Time
  rw [spSup h hp, Option.bind_some, idx_C hp]
  simp only [F_spec_l05Whole, Option.bind_some]
  have := time_loop h hT hr hl hp (F := F_spec_l05Time_l1 (sup A p) (frs D X)) (fun f n d => by rw [F_spec_l05Time_l1.eq_2, dlt_f (by omega)]; rfl) (fun f s i j hi hj ej h1 h2 h3 => by
    have es : DFraction.mk s.fNum s.fDen = s := rfl
    have hk7 : (sup A p).length ≤ 6 := hk6
    rw [F_spec_l05Time_l1.eq_2, dlt_t hi, cond_true, idx_nat hi, ej, idx_frs hj, es, spAdd h1 h2, res_sm h3, Option.bind_some, W_succ hi (by unfold maxLen; omega)])
  rw [getElem!_pos C p hp] at this
  have es : DFraction.mk (fr (tnum C A D X p) D).fNum (fr (tnum C A D X p) D).fDen = fr (tnum C A D X p) D := rfl
  have hkk : ((sup A p).length : Int) = (kk A p : Int) := rfl
  rw [this, Option.bind_some, es, hkk, spDiv s1 hk (by omega), e, res_sm s2]
  rfl
theorem imTime {r D : Nat} {X : List Int} (hT : Tim r D X) (hr : r ≤ 6) (hl : X.length = A.length) {p : Nat} (hp : p < C.length) (hk : 0 < kk A p) {β : Type} {K : Int → Int → Option β} :
    (Option.bind (F_impl_PhragmenOrder_l4 (sup A p) (frs D X) ((sup A p).length + 1) (C[p] : Int) 1 0) fun (x466, x467) =>
      Option.bind ((F_impl_Fraction_over (DFraction.mk x466 x467) (DFraction.mk ((sup A p).length : Int) 1)).bind fun x551 => some (x551.fNum, x551.fDen)) fun (x537, x538) => K x537 x538) = K (tim C A D X p).fNum (tim C A D X p).fDen := by
  obtain ⟨s1, s2, e, -, -⟩ := tim_facts h hT hr hl hp hk
  have hk6 : kk A p ≤ 6 := kk6 h
  have := time_loop h hT hr hl hp (F := F_impl_PhragmenOrder_l4 (sup A p) (frs D X)) (fun f n d => by rw [F_impl_PhragmenOrder_l4.eq_2, dlt_f (by omega)]; rfl) (fun f s i j hi hj ej h1 h2 h3 => by
    have es : DFraction.mk s.fNum s.fDen = s := rfl
    have hk7 : (sup A p).length ≤ 6 := hk6
    rw [F_impl_PhragmenOrder_l4.eq_2, dlt_t hi, cond_true, idx_nat hi, ej, idx_frs hj, es, imPlus h1 h2, Option.bind_some, W_succ hi (by unfold maxLen; omega)])
  rw [getElem!_pos C p hp] at this
  have es : DFraction.mk (fr (tnum C A D X p) D).fNum (fr (tnum C A D X p) D).fDen = fr (tnum C A D X p) D := rfl
  have hkk : ((sup A p).length : Int) = (kk A p : Int) := rfl
  rw [this, Option.bind_some]
  simp only
  rw [es, hkk, imOver s1 hk (by omega), e]
  rfl
end
end Go.FX
