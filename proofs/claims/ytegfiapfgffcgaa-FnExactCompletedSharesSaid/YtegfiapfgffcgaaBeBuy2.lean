/- The pure part: what the functions compute, in plain Lean, with no program in sight; no condition. -/
import Derived.Test.YtegfiapfgffcgaaBeBuy1
namespace Go.FX
open Go Go.GL Go.RowKit
/-- the purses behind an order, over their denominator, and the payments -/
def run (C : List Nat) (A : List (Nat → Bool)) : Nat → List Int → List Nat → Option ((Nat × List Int) × List (List DFraction))
  | D, X, [] => some ((D, X), [])
  | D, X, p :: ps => match prc D ((C[p]! : Int) * D) (srt (own A X p)) with
    | none => none
    | some (x, k) => match run C A (D * k) (newN A X p x k) ps with
      | none => none
      | some (s, L) => some (s, frs (D * k) (payN A X p x k) :: L)
def outB (acc : List (List DFraction)) : Option ((Nat × List Int) × List (List DFraction)) → List (List DFraction) × List DFraction × Bool
  | none => ([], [], false)
  | some ((D, X), L) => (acc ++ L, frs D X, true)
def swp (r : List (List DFraction) × List DFraction × Bool) : List DFraction × List (List DFraction) × Bool := (r.2.1, r.1, r.2.2)
theorem pow6 {i : Nat} (h : i ≤ 7) : 6 ^ i ≤ 279936 := Nat.le_trans (Nat.pow_le_pow_right (by decide) h) (by decide)
section
variable {m : Nat} {C : List Nat} {A : List (Nat → Bool)} (h : Elec m C A)
include h
/-- one purchase's facts -/
theorem prc_facts {D : Nat} {X : List Int} (hX : Pur D X) (hl : X.length = A.length) {p : Nat} (hp : p < C.length) {x : Int} {k : Nat} (e : prc D ((C[p]! : Int) * D) (srt (own A X p)) = some (x, k)) :
    0 ≤ x ∧ x ≤ 60 * D ∧ 1 ≤ k ∧ k ≤ 6 := by
  have hc := h.cost C[p] (List.getElem_mem hp)
  have h60 : (C[p]! : Int) * D ≤ 60 * D := Int.mul_le_mul_of_nonneg_right (by rw [getElem!_pos C p hp]; omega) (by omega)
  have h0 : 0 ≤ (C[p]! : Int) * D := Int.mul_nonneg (by omega) (by omega)
  obtain ⟨a, b, c, d⟩ := prc_spec e h0 fun y hy => hX.nn y (own_mem hl (srt_mem.1 hy))
  rw [srt_len, own_len] at d
  have := kk6 h (p := p)
  exact ⟨a, by omega, c, by omega⟩
theorem buy_loop {os : List Nat} (ho : ∀ p ∈ os, p < C.length) (hn : os.length ≤ 6) {F : Nat → List DFraction → List (List DFraction) → Int → Option (List (List DFraction) × List DFraction × Bool)}
    (hE : ∀ f l acc, F (f + 1) l acc (os.length : Int) = some (acc, l, true))
    (hF : ∀ f i D X acc (hi : i < os.length), Pur D X → X.length = A.length → D ≤ 6 ^ (i + 1) → acc.length = i → F (f + 1) (frs D X) acc (i : Int) =
      match prc D ((C[os[i]]! : Int) * D) (srt (own A X os[i])) with
      | none => some ([], [], false)
      | some (x, k) => F f (frs (D * k) (newN A X os[i] x k)) (acc ++ [frs (D * k) (payN A X os[i] x k)]) ((i + 1 : Nat) : Int)) :
    ∀ d i f, i + d = os.length → d < f → ∀ D X acc, Pur D X → X.length = A.length → D ≤ 6 ^ (i + 1) → acc.length = i → F f (frs D X) acc (i : Int) = some (outB acc (run C A D X (os.drop i))) := by
  refine up (P := fun i f => ∀ D X acc, Pur D X → X.length = A.length → D ≤ 6 ^ (i + 1) → acc.length = i → F f (frs D X) acc (i : Int) = some (outB acc (run C A D X (os.drop i)))) (fun f D X acc _ _ _ _ => ?_) (fun i f hi ih D X acc hX hl hD ha => ?_)
  · rw [hE, List.drop_of_length_le (Nat.le_refl _)]
    simp [run, outB]
  · rw [hF f i D X acc hi hX hl hD ha, List.drop_eq_getElem_cons hi, run]
    cases e : prc D ((C[os[i]]! : Int) * D) (srt (own A X os[i])) with
    | none => rfl
    | some r =>
      obtain ⟨x, k⟩ := r
      obtain ⟨h1, h2, h3, h4⟩ := prc_facts h hX hl (ho _ (List.getElem_mem hi)) e
      have hDk : D * k ≤ 6 ^ (i + 1 + 1) := by rw [Nat.pow_succ]; exact Nat.mul_le_mul hD h4
      simp only
      rw [ih _ _ _ (hX.new hl h1 h3 (Nat.le_trans hDk (pow6 (by omega)))) newN_len hDk (by simp [ha])]
      cases run C A (D * k) (newN A X os[i] x k) (List.drop (i + 1) os) with
      | none => rfl
      | some s => simp [outB]
theorem spBuyL1 {os : List Nat} (ho : ∀ p ∈ os, p < C.length) (hn : os.length ≤ 6) {D : Nat} {X : List Int} (hX : Pur D X) (hl : X.length = A.length) (hD : D ≤ 6 ^ 1) :
    F_spec_l05Buy_l1 (os.map Int.ofNat) (ele m C A) ((os.map Int.ofNat).length + 1) (frs D X) [] 0 = some (outB [] (run C A D X os)) := by
  have hlen : (os.map Int.ofNat).length = os.length := List.length_map _
  have := buy_loop h ho hn (F := fun f l acc i => F_spec_l05Buy_l1 (os.map Int.ofNat) (ele m C A) f l acc i) (fun f l acc => by
    show F_spec_l05Buy_l1 _ _ _ _ _ _ = _
    rw [F_spec_l05Buy_l1.eq_2, hlen, dlt_f (by omega)]; rfl) (fun f i D X acc hi hX hl hD ha => by
    show F_spec_l05Buy_l1 _ _ _ _ _ _ = _
    have hp := ho _ (List.getElem_mem hi)
    have ho : ∀ {β : Type} (K : Int → Option β), idx (os.map Int.ofNat) (i : Int) K = K (os[i] : Int) := fun K => by rw [idx_nat (by rw [hlen]; exact hi), List.getElem_map]; rfl
    rw [F_spec_l05Buy_l1.eq_2, hlen, dlt_t hi, cond_true, ho, spPrice h hX hl hp, Option.bind_some]
    cases e : prc D ((C[os[i]]! : Int) * D) (srt (own A X os[i])) with
    | none => rfl
    | some r =>
      obtain ⟨x, k⟩ := r
      obtain ⟨h1, h2, h3, h4⟩ := prc_facts h hX hl hp e
      have hDk : D * k ≤ 279936 := Nat.le_trans (Nat.mul_le_mul hD h4) (by rw [← Nat.pow_succ]; exact pow6 (by omega))
      have he : DFraction.mk (fr x (D * k)).fNum (fr x (D * k)).fDen = fr x (D * k) := rfl
      simp only [outP, Bool.not_true, cond_false]
      rw [ho, he, spPay h hX hl hp h1 h2 h3 hDk, Option.bind_some, spBuy2 h hX hl h1 h2 h3 hDk (by omega), Option.bind_some, W_succ hi (by unfold maxLen; omega)]
      rfl) os.length 0 (os.length + 1) (by omega) (by omega) D X [] hX hl hD rfl
  rw [hlen]
  exact this
theorem imBoughtL2 {os : List Nat} (ho : ∀ p ∈ os, p < C.length) (hn : os.length ≤ 6) {D : Nat} {X : List Int} (hX : Pur D X) (hl : X.length = A.length) (hD : D ≤ 6 ^ 1) :
    F_impl_Election_bought_l2 (os.map Int.ofNat) (ele m C A) ((os.map Int.ofNat).length + 1) (frs D X) [] 0 = some (swp (outB [] (run C A D X os))) := by
  have hlen : (os.map Int.ofNat).length = os.length := List.length_map _
  have := buy_loop h ho hn (F := fun f l acc i => (F_impl_Election_bought_l2 (os.map Int.ofNat) (ele m C A) f l acc i).map fun r => (r.2.1, r.1, r.2.2)) (fun f l acc => by
    show Option.map _ (F_impl_Election_bought_l2 _ _ _ _ _ _) = _
    rw [F_impl_Election_bought_l2.eq_2, hlen, dlt_f (by omega)]; rfl) (fun f i D X acc hi hX hl hD ha => by
    show Option.map _ (F_impl_Election_bought_l2 _ _ _ _ _ _) = _
    have hp := ho _ (List.getElem_mem hi)
    have ho : ∀ {β : Type} (K : Int → Option β), idx (os.map Int.ofNat) (i : Int) K = K (os[i] : Int) := fun K => by rw [idx_nat (by rw [hlen]; exact hi), List.getElem_map]; rfl
    rw [F_impl_Election_bought_l2.eq_2, hlen, dlt_t hi, cond_true, ho, imPrice h hX hl hp, Option.bind_some]
    cases e : prc D ((C[os[i]]! : Int) * D) (srt (own A X os[i])) with
    | none => rfl
    | some r =>
      obtain ⟨x, k⟩ := r
      obtain ⟨h1, h2, h3, h4⟩ := prc_facts h hX hl hp e
      have hDk : D * k ≤ 279936 := Nat.le_trans (Nat.mul_le_mul hD h4) (by rw [← Nat.pow_succ]; exact pow6 (by omega))
      have he : DFraction.mk (fr x (D * k)).fNum (fr x (D * k)).fDen = fr x (D * k) := rfl
      simp only [outP, Bool.not_true, cond_false]
      rw [he, imPaid h hX hl hp h1 h2 h3 hDk, Option.bind_some, imBought3 h hX hl h1 h2 h3 hDk (by omega), Option.bind_some, W_succ hi (by unfold maxLen; omega)]
      rfl) os.length 0 (os.length + 1) (by omega) (by omega) D X [] hX hl hD rfl
  rw [hlen]
  simp only [List.drop_zero] at this
  obtain ⟨r, h1, h2⟩ := Option.map_eq_some_iff.1 this
  have h1' : F_impl_Election_bought_l2 (os.map Int.ofNat) (ele m C A) (os.length + 1) (frs D X) [] 0 = some r := h1
  rw [h1', ← h2]
  rfl
/-- the shares -/
def shr0 (m : Nat) (A : List (Nat → Bool)) : List Int := tab A.length fun _ => (m : Int)
omit h in
theorem shr0_len : (shr0 m A).length = A.length := tab_len
theorem shr_sm : Sm (fr (m : Int) A.length) := fr_sm h.a1 (by have := h.a6; omega) (by have := h.money; omega)
theorem shr_pur : Pur A.length (shr0 m A) := by
  have := h.a1; have := h.a6; have := h.money
  refine ⟨h.a1, by omega, fun y hy => ?_, fun y hy => ?_⟩ <;>
  · obtain ⟨i, -, rfl⟩ := List.mem_map.1 hy
    omega
theorem spShare : F_spec_l05Share (ele m C A) = some (fr (m : Int) A.length) := by
  have := h.a1; have := h.a6; have := h.money
  unfold F_spec_l05Share
  rw [ele_A]
  have e := spMake (n := (m : Int)) (d := A.length) h.a1 (by omega) (by omega) (by omega)
  have hm : (ele m C A).fMoney = (m : Int) := rfl
  rw [hm, e, if_pos (sm_inB (shr_sm h))]
  rfl
theorem imShare : F_impl_Election_share (ele m C A) = some (fr (m : Int) A.length) := by
  have := h.a1; have := h.a6; have := h.money
  unfold F_impl_Election_share
  rw [ele_A]
  have hm : (ele m C A).fMoney = (m : Int) := rfl
  rw [hm, imFraction h.a1 (by omega) (by omega) (by omega)]
  rfl
theorem spPurses : F_spec_l05Purses (ele m C A) = some (frs A.length (shr0 m A)) := by
  have ha := h.a6
  unfold F_spec_l05Purses
  rw [ele_A]
  have := app_loop (b := 1) (n := A.length) (F := F_spec_l05Purses_l1 (ele m C A)) (m := A.length + 1) (acc := []) (fun i => [fr (m : Int) A.length]) some 0
    (fun j _ => by simp) (fun f acc => by rw [F_spec_l05Purses_l1.eq_2, ele_A, dlt_f (by omega)]; rfl)
    (fun f acc i hi hacc => by rw [F_spec_l05Purses_l1.eq_2, ele_A, dlt_t hi, cond_true, spShare h, Option.bind_some, app_ok (by simp; omega), W_succ (n := A.length) hi (by unfold maxLen; omega)]) (by omega) (by simp)
  rw [this, List.nil_append]
  unfold shr0
  rw [frs_tab]
  congr 1
  exact (List.map_eq_flatMap ..).symm
theorem imPurses : F_impl_Election_bought_l1 (ele m C A) ((ele m C A).fApprovals.length + 1) [] 0 = some (frs A.length (shr0 m A)) := by
  have ha := h.a6
  rw [ele_A]
  have := app_loop (b := 1) (n := A.length) (F := F_impl_Election_bought_l1 (ele m C A)) (m := A.length + 1) (acc := []) (fun i => [fr (m : Int) A.length]) some 0
    (fun j _ => by simp) (fun f acc => by rw [F_impl_Election_bought_l1.eq_2, ele_A, dlt_f (by omega)]; rfl)
    (fun f acc i hi hacc => by rw [F_impl_Election_bought_l1.eq_2, ele_A, dlt_t hi, cond_true, imShare h, Option.bind_some, app_ok (by simp; omega), W_succ (n := A.length) hi (by unfold maxLen; omega)]) (by omega) (by simp)
  rw [this, List.nil_append]
  unfold shr0
  rw [frs_tab]
  congr 1
  exact (List.map_eq_flatMap ..).symm
def runO (m : Nat) (C : List Nat) (A : List (Nat → Bool)) (os : List Nat) := run C A A.length (shr0 m A) os
theorem spBuy {os : List Nat} (ho : ∀ p ∈ os, p < C.length) (hn : os.length ≤ 6) : F_spec_l05Buy (ele m C A) (os.map Int.ofNat) = some (outB [] (runO m C A os)) := by
  unfold F_spec_l05Buy
  rw [spPurses h, Option.bind_some]
  exact spBuyL1 h ho hn (shr_pur h) shr0_len (by have := h.a6; omega)
theorem imBought {os : List Nat} (ho : ∀ p ∈ os, p < C.length) (hn : os.length ≤ 6) : F_impl_Election_bought (ele m C A) (os.map Int.ofNat) = some (swp (outB [] (runO m C A os))) := by
  unfold F_impl_Election_bought
  rw [imPurses h, Option.bind_some]
  exact imBoughtL2 h ho hn (shr_pur h) shr0_len (by have := h.a6; omega)
end
end Go.FX
