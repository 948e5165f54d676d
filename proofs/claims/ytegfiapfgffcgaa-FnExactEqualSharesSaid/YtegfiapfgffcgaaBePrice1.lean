/- The pure part: what the functions compute, in plain Lean, with no program in sight; no condition. -/
import Derived.Test.YtegfiapfgffcgaaBeFrac2
namespace Go.FX
open Go Go.GL Go.RowKit
/-! the stable order -/
def srt (l : List Int) : List Int := (sortB (fun x y => decide (x < y)) l).reverse
def putS (x : Int) (l : List Int) : List Int := l.filter (fun y => decide (y ≤ x)) ++ x :: l.filter (fun y => decide (x < y))
theorem insR_put {x : Int} : ∀ {ys : List Int}, ys.Pairwise (fun a b => b ≤ a) → (insR (fun x y => decide (x < y)) x ys).reverse = putS x ys.reverse := by
  intro ys
  induction ys with
  | nil => intro _; rfl
  | cons y ys ih =>
    intro hp
    rw [List.pairwise_cons] at hp
    unfold insR putS
    by_cases e : x < y
    · rw [decide_eq_true e, cond_true, List.reverse_cons, ih hp.2]
      unfold putS
      rw [List.reverse_cons, List.filter_append, List.filter_append]
      have : ¬ y ≤ x := by omega
      simp [e, this]
    · rw [decide_eq_false e, cond_false]
      have h1 : (y :: ys).reverse.filter (fun z => decide (z ≤ x)) = (y :: ys).reverse := List.filter_eq_self.2 fun z hz => by
        rcases List.mem_cons.1 (List.mem_reverse.1 hz) with rfl | hz
        · exact decide_eq_true (by omega)
        · have := hp.1 z hz
          exact decide_eq_true (by omega)
      have h2 : (y :: ys).reverse.filter (fun z => decide (x < z)) = [] := List.filter_eq_nil_iff.2 fun z hz => by
        rcases List.mem_cons.1 (List.mem_reverse.1 hz) with rfl | hz
        · simp; omega
        · have := hp.1 z hz
          simp; omega
      rw [h1, h2]
      simp
theorem insR_down {x : Int} : ∀ {ys : List Int}, ys.Pairwise (fun a b => b ≤ a) → (insR (fun x y => decide (x < y)) x ys).Pairwise (fun a b => b ≤ a) := by
  intro ys
  induction ys with
  | nil => intro _; simp [insR]
  | cons y ys ih =>
    intro hp
    rw [List.pairwise_cons] at hp
    unfold insR
    by_cases e : x < y
    · rw [decide_eq_true e, cond_true, List.pairwise_cons]
      refine ⟨fun z hz => ?_, ih hp.2⟩
      rcases insR_mem.1 hz with rfl | hz
      · omega
      · exact hp.1 z hz
    · rw [decide_eq_false e, cond_false, List.pairwise_cons, List.pairwise_cons]
      refine ⟨fun z hz => ?_, hp⟩
      rcases List.mem_cons.1 hz with rfl | hz
      · omega
      · have := hp.1 z hz; omega
theorem sortB_down : ∀ {l acc : List Int}, acc.Pairwise (fun a b => b ≤ a) → (l.foldl (fun acc x => insR (fun x y => decide (x < y)) x acc) acc).Pairwise (fun a b => b ≤ a) := by
  intro l
  induction l with
  | nil => intro acc h; exact h
  | cons x l ih => intro acc h; exact ih (insR_down h)
theorem srt_snoc {l : List Int} {x : Int} : srt (l ++ [x]) = putS x (srt l) := by
  unfold srt
  rw [sortB_snoc]
  exact insR_put (sortB_down List.Pairwise.nil)
theorem srt_up {l : List Int} : (srt l).Pairwise (fun a b => a ≤ b) := by
  unfold srt
  rw [List.pairwise_reverse]
  exact sortB_down List.Pairwise.nil
theorem srt_perm {l : List Int} : (srt l).Perm l := (List.reverse_perm _).trans sortB_perm
theorem srt_len {l : List Int} : (srt l).length = l.length := srt_perm.length_eq
theorem srt_mem {l : List Int} {x : Int} : x ∈ srt l ↔ x ∈ l := srt_perm.mem_iff
/-- at a sorted list: the place of the first that is greater -/
theorem put_at {x : Int} : ∀ {l : List Int}, l.Pairwise (fun a b => a ≤ b) → putS x l = l.take (l.countP fun y => decide (y ≤ x)) ++ x :: l.drop (l.countP fun y => decide (y ≤ x)) := by
  intro l
  induction l with
  | nil => intro _; rfl
  | cons y l ih =>
    intro hp
    rw [List.pairwise_cons] at hp
    unfold putS
    by_cases e : y ≤ x
    · have e2 : ¬ x < y := by omega
      have := ih hp.2
      unfold putS at this
      rw [List.countP_cons_of_pos (by simpa using e), List.take_succ_cons, List.drop_succ_cons, List.filter_cons, if_pos (by simpa using e), List.filter_cons, if_neg (by simpa using e2), List.cons_append, this]
      rfl
    · have h1 : l.filter (fun z => decide (z ≤ x)) = [] := List.filter_eq_nil_iff.2 fun z hz => by have := hp.1 z hz; simp; omega
      have h2 : l.filter (fun z => decide (x < z)) = l := List.filter_eq_self.2 fun z hz => by have := hp.1 z hz; exact decide_eq_true (by omega)
      have h3 : (y :: l).countP (fun y => decide (y ≤ x)) = 0 := List.countP_eq_zero.2 fun z hz => by
        rcases List.mem_cons.1 hz with rfl | hz
        · simpa using e
        · have := hp.1 z hz
          simp; omega
      rw [h3, List.filter_cons, if_neg (by simpa using e), h1, List.filter_cons, if_pos (by simp; omega), h2]
      rfl
theorem cnt_first {x : Int} : ∀ {l : List Int}, l.Pairwise (fun a b => a ≤ b) → ∀ i (hi : i < l.length), (l[i] ≤ x ↔ i < l.countP fun y => decide (y ≤ x)) := by
  intro l
  induction l with
  | nil => intro _ i hi; simp at hi
  | cons y l ih =>
    intro hp i hi
    rw [List.pairwise_cons] at hp
    by_cases e : y ≤ x
    · rw [List.countP_cons_of_pos (by simpa using e)]
      cases i with
      | zero => simp [e]
      | succ i =>
        rw [List.getElem_cons_succ, ih hp.2 i (by simpa using hi)]
        omega
    · have h3 : (y :: l).countP (fun y => decide (y ≤ x)) = 0 := List.countP_eq_zero.2 fun z hz => by
        rcases List.mem_cons.1 hz with rfl | hz
        · simpa using e
        · have := hp.1 z hz
          simp; omega
      rw [h3]
      constructor
      · intro h
        cases i with
        | zero => exact absurd h e
        | succ i =>
          have := hp.1 _ (List.getElem_mem (by simpa using hi : i < l.length))
          rw [List.getElem_cons_succ] at h
          omega
      · omega
/-! purses over a common denominator -/
theorem icmp_le {x y : Int} : decide (icmp x y ≤ 0) = decide (x ≤ y) := by
  unfold icmp
  rw [decide_eq_decide]
  split
  · omega
  · split <;> omega
theorem icmp_lt {x y : Int} : decide (icmp x y < 0) = decide (x < y) := by
  unfold icmp
  rw [decide_eq_decide]
  split
  · omega
  · split <;> omega
/-- numbers that are purses over D -/
structure Pur (D : Nat) (X : List Int) : Prop where
  d0 : 0 < D
  dB : D ≤ 279936
  nn : ∀ x ∈ X, 0 ≤ x
  up : ∀ x ∈ X, x ≤ 360 * D
def frs (D : Nat) (X : List Int) : List DFraction := X.map fun x => fr x D
theorem frs_len {D : Nat} {X : List Int} : (frs D X).length = X.length := List.length_map _
theorem frs_at {D : Nat} {X : List Int} {i : Nat} (h : i < X.length) : (frs D X)[i]'(by rw [frs_len]; exact h) = fr X[i] D := by simp [frs]
theorem idx_frs {β : Type} {D : Nat} {X : List Int} {i : Nat} (h : i < X.length) {k : DFraction → Option β} : idx (frs D X) (i : Int) k = k (fr X[i] D) := by
  rw [idx_nat (by rw [frs_len]; exact h), frs_at h]
theorem Pur.sm {D : Nat} {X : List Int} (h : Pur D X) {x : Int} (hx : x ∈ X) : Sm (fr x D) := by
  have h1 := h.nn x hx; have h2 := h.up x hx; have := h.dB
  exact fr_sm h.d0 (by omega) (by omega)
def prc (D : Nat) : Int → List Int → Option (Int × Nat)
  | _, [] => none
  | left, y :: ys => if left ≤ y * ((ys.length + 1 : Nat) : Int) then some (left, ys.length + 1) else prc D (left - y) ys
def outP (D : Nat) : Option (Int × Nat) → DFraction × Bool
  | none => (⟨0, 0⟩, false)
  | some (x, m) => (fr x (D * m), true)
theorem price_loop {D : Nat} {S : List Int} (hS : Pur D S) {F : Nat → Int → Int → Int → Option (DFraction × Bool)}
    (hE : ∀ f n d, F (f + 1) n d (S.length : Int) = some (⟨0, 0⟩, false))
    (hF : ∀ f (left : Int) i (hi : i < S.length), left.natAbs ≤ (60 + 360 * i) * D → F (f + 1) (fr left D).fNum (fr left D).fDen (i : Int) =
      if cmpF (over (fr left D) (S.length - i)) (fr S[i] D) ≤ 0 then some (over (fr left D) (S.length - i), true) else F f (subF (fr left D) (fr S[i] D)).fNum (subF (fr left D) (fr S[i] D)).fDen ((i + 1 : Nat) : Int)) :
    ∀ k i f, i + k = S.length → k < f → ∀ left : Int, left.natAbs ≤ (60 + 360 * i) * D → F f (fr left D).fNum (fr left D).fDen (i : Int) = some (outP D (prc D left (S.drop i))) := by
  refine up (P := fun i f => ∀ left : Int, left.natAbs ≤ (60 + 360 * i) * D → F f (fr left D).fNum (fr left D).fDen (i : Int) = some (outP D (prc D left (S.drop i)))) (fun f left _ => ?_) (fun i f hi ih left hb => ?_)
  · rw [hE, List.drop_of_length_le (Nat.le_refl _)]
    rfl
  · have h1 := hS.nn _ (List.getElem_mem hi); have h2 := hS.up _ (List.getElem_mem hi)
    rw [hF f left i hi hb, over_fr hS.d0 (by omega), sub_fr hS.d0, cmp_gen (Nat.mul_pos hS.d0 (by omega)) hS.d0, List.drop_eq_getElem_cons hi, prc, ih _ (by
      have : (60 + 360 * (i + 1)) * D = (60 + 360 * i) * D + 360 * D := by rw [← Nat.add_mul, show 60 + 360 * (i + 1) = 60 + 360 * i + 360 by omega]
      omega)]
    have hm : S[i] * ((D * (S.length - i) : Nat) : Int) = S[i] * ((S.length - i : Nat) : Int) * (D : Int) := by
      rw [Int.natCast_mul, Int.mul_assoc]; congr 1; exact Int.mul_comm _ _
    have hd : (0 : Int) < (D : Int) := by have := hS.d0; omega
    rw [hm, icmp_mul hd]
    have hlen : (S.drop (i + 1)).length + 1 = S.length - i := by rw [List.length_drop]; omega
    rw [hlen]
    have := @icmp_le left (S[i] * ((S.length - i : Nat) : Int))
    rw [decide_eq_decide] at this
    by_cases e : left ≤ S[i] * ((S.length - i : Nat) : Int)
    · rw [if_pos e, if_pos (this.2 e)]; rfl
    · rw [if_neg e, if_neg (fun q => e (this.1 q))]
/-- what the supporters of a project have -/
def own (A : List (Nat → Bool)) (X : List Int) (p : Nat) : List Int := (sup A p).map fun v => X[v.toNat]!
theorem sup_mem {A : List (Nat → Bool)} {p : Nat} {v : Int} (h : v ∈ sup A p) : ∃ j : Nat, v = j ∧ j < A.length ∧ likes A p j = true := by
  obtain ⟨j, h1, h2, h3⟩ := mem_lst.1 h
  exact ⟨j, h3, h1, h2⟩
theorem own_mem {A : List (Nat → Bool)} {X : List Int} {p : Nat} {x : Int} (hX : X.length = A.length) (h : x ∈ own A X p) : x ∈ X := by
  obtain ⟨v, hv, rfl⟩ := List.mem_map.1 h
  obtain ⟨j, rfl, hj, -⟩ := sup_mem hv
  rw [Int.toNat_natCast, getElem!_pos X j (by omega)]
  exact List.getElem_mem _
theorem own_len {A : List (Nat → Bool)} {X : List Int} {p : Nat} : (own A X p).length = kk A p := List.length_map _
theorem Pur.of {D : Nat} {X Y : List Int} (h : Pur D X) (hs : ∀ y ∈ Y, y ∈ X) : Pur D Y := ⟨h.d0, h.dB, fun y hy => h.nn y (hs y hy), fun y hy => h.up y (hs y hy)⟩
theorem Pur.big {D : Nat} {X : List Int} (h : Pur D X) {left : Int} {i : Nat} (hi : i ≤ 6) (hb : left.natAbs ≤ (60 + 360 * i) * D) : left.natAbs ≤ 1000000000 := by
  have := h.dB
  have h2 : (60 + 360 * i) * D ≤ 2220 * 279936 := Nat.mul_le_mul (by omega) this
  omega
/-- the loop's step, of whichever side -/
theorem pstep {D : Nat} {X : List Int} (h : Pur D X) {left x : Int} {i m : Nat} (hi : i ≤ 6) (hb : left.natAbs ≤ (60 + 360 * i) * D) (hx : x ∈ X) (hm : 1 ≤ m) (hm6 : m ≤ 6) :
    Sm (fr left D) ∧ Sm (fr x D) ∧ Sm (over (fr left D) m) ∧ (i < 6 → Sm (subF (fr left D) (fr x D))) := by
  have hd := h.dB; have h1 := h.nn x hx; have h2 := h.up x hx
  have hb' := h.big hi hb
  refine ⟨fr_sm h.d0 (by omega) hb', h.sm hx, ?_, fun h6 => ?_⟩
  · rw [over_fr h.d0 (by omega)]
    exact fr_sm (Nat.mul_pos h.d0 (by omega)) (by have : D * m ≤ 279936 * 6 := Nat.mul_le_mul hd hm6; omega) hb'
  · rw [sub_fr h.d0]
    refine fr_sm h.d0 (by omega) (h.big (i := i + 1) (by omega) ?_)
    have : (60 + 360 * (i + 1)) * D = (60 + 360 * i) * D + 360 * D := by rw [← Nat.add_mul, show 60 + 360 * (i + 1) = 60 + 360 * i + 360 by omega]
    omega
theorem spPrice3 {D : Nat} {S : List Int} (hS : Pur D S) (hl : S.length ≤ 6) {c : Nat} (hc : c ≤ 60) :
    F_spec_l05Price_l3 (frs D S) ((frs D S).length + 1) (c : Int) 1 0 = some (outP D (prc D ((c : Int) * D) S)) := by
  have e : (⟨(c : Int), 1⟩ : DFraction) = fr ((c : Int) * D) D := whole_fr hS.d0
  have e1 : (fr ((c : Int) * D) D).fNum = c := by rw [← e]
  have e2 : (fr ((c : Int) * D) D).fDen = 1 := by rw [← e]
  have := price_loop hS (F := fun f n d i => F_spec_l05Price_l3 (frs D S) f n d i) (fun f n d => by
      show F_spec_l05Price_l3 (frs D S) (f + 1) n d (S.length : Int) = _
      rw [F_spec_l05Price_l3.eq_2, frs_len, dlt_f (by omega)]; rfl) (fun f left i hi hb => by
      show F_spec_l05Price_l3 (frs D S) (f + 1) _ _ (i : Int) = _
      obtain ⟨s1, s2, s3, s4⟩ := pstep hS (m := S.length - i) (by omega) hb (List.getElem_mem hi) (by omega) (by omega)
      have hw : IntKind.i64.wrap ((S.length : Int) - (i : Int)) = ((S.length - i : Nat) : Int) := by rw [W_id (by omega) (by omega)]; omega
      have he : DFraction.mk (fr left D).fNum (fr left D).fDen = fr left D := rfl
      have s4 := s4 (by omega)
      rw [F_spec_l05Price_l3.eq_2, frs_len, dlt_t hi, cond_true, hw]
      simp only [F_spec_l05Whole, Option.bind_some]
      rw [he, spDiv s1 (by omega) (by omega), res_sm s3]
      simp only [Option.bind_some]
      have he2 : DFraction.mk (over (fr left D) (S.length - i)).fNum (over (fr left D) (S.length - i)).fDen = over (fr left D) (S.length - i) := rfl
      rw [idx_frs hi, he2, spCmp s3 s2, Option.bind_some, idx_frs hi, spSub s1 s2, res_sm s4, Option.bind_some, W_succ hi (by unfold maxLen; omega)]
      by_cases q : cmpF (over (fr left D) (S.length - i)) (fr S[i] D) ≤ 0
      · rw [decide_eq_true q, if_pos q]; rfl
      · rw [decide_eq_false q, if_neg q]; rfl) S.length 0 (S.length + 1) (by omega) (by omega) ((c : Int) * D) (by
        rw [Int.natAbs_mul]
        exact Nat.mul_le_mul (by simp; omega) (Nat.le_refl _))
  rw [e1, e2, List.drop_zero] at this
  rw [frs_len]
  exact this
theorem imPrice2 {D : Nat} {S : List Int} (hS : Pur D S) (hl : S.length ≤ 6) {c : Nat} (hc : c ≤ 60) :
    F_impl_Election_price_l2 (frs D S) ((frs D S).length + 1) (c : Int) 1 0 = some (outP D (prc D ((c : Int) * D) S)) := by
  have e : (⟨(c : Int), 1⟩ : DFraction) = fr ((c : Int) * D) D := whole_fr hS.d0
  have e1 : (fr ((c : Int) * D) D).fNum = c := by rw [← e]
  have e2 : (fr ((c : Int) * D) D).fDen = 1 := by rw [← e]
  have := price_loop hS (F := fun f n d i => F_impl_Election_price_l2 (frs D S) f n d i) (fun f n d => by
      show F_impl_Election_price_l2 (frs D S) (f + 1) n d (S.length : Int) = _
      rw [F_impl_Election_price_l2.eq_2, frs_len, dlt_f (by omega)]; rfl) (fun f left i hi hb => by
      show F_impl_Election_price_l2 (frs D S) (f + 1) _ _ (i : Int) = _
      obtain ⟨s1, s2, s3, s4⟩ := pstep hS (m := S.length - i) (by omega) hb (List.getElem_mem hi) (by omega) (by omega)
      have hw : IntKind.i64.wrap ((S.length : Int) - (i : Int)) = ((S.length - i : Nat) : Int) := by rw [W_id (by omega) (by omega)]; omega
      have he : DFraction.mk (fr left D).fNum (fr left D).fDen = fr left D := rfl
      rw [F_impl_Election_price_l2.eq_2, frs_len, dlt_t hi, cond_true, hw]
      simp only [F_impl_whole, Option.bind_some]
      rw [he, idx_frs hi, imOver s1 (by omega) (by omega)]
      simp only [Option.bind_some]
      have he2 : DFraction.mk (over (fr left D) (S.length - i)).fNum (over (fr left D) (S.length - i)).fDen = over (fr left D) (S.length - i) := rfl
      rw [he2, imCmp s3 s2, Option.bind_some, imMinus s1 s2, Option.bind_some, W_succ hi (by unfold maxLen; omega)]
      by_cases q : cmpF (over (fr left D) (S.length - i)) (fr S[i] D) ≤ 0
      · rw [decide_eq_true q, if_pos q]; rfl
      · rw [decide_eq_false q, if_neg q]; rfl) S.length 0 (S.length + 1) (by omega) (by omega) ((c : Int) * D) (by
        rw [Int.natAbs_mul]
        exact Nat.mul_le_mul (by simp; omega) (Nat.le_refl _))
  rw [e1, e2, List.drop_zero] at this
  rw [frs_len]
  exact this
/-! the list of what they have, in order -/
theorem spPriceL2 {D : Nat} {X L S : List Int} (hX : Pur D X) (hL : ∀ x ∈ L, x ∈ X) (hup : L.Pairwise (fun a b => a ≤ b)) (hl : L.length ≤ 6) {k : Nat} (hk : k < S.length) {v : Nat} (hv : v < X.length) (hS : S[k] = (v : Int)) :
    F_spec_l05Price_l2 (frs D L) S (k : Int) (frs D X) 1000 0 = some ((L.countP fun y => decide (y ≤ X[v]) : Nat) : Int) := by
  have hst : ∀ j f, F_spec_l05Price_l2 (frs D L) S (k : Int) (frs D X) (f + 1) ((j : Nat) : Int) =
      if h : j < L.length then (if L[j] ≤ X[v] then F_spec_l05Price_l2 (frs D L) S (k : Int) (frs D X) f ((j + 1 : Nat) : Int) else some (j : Int)) else some (j : Int) := by
    intro j f
    rw [F_spec_l05Price_l2.eq_2, frs_len]
    by_cases e : j < L.length
    · have s1 := hX.sm (hL _ (List.getElem_mem e)); have s2 := hX.sm (List.getElem_mem hv)
      rw [dlt_t e, cond_true, dif_pos e, idx_frs e, idx_nat hk, hS, idx_frs hv, spCmp s1 s2, Option.bind_some, cmp_fr hX.d0, icmp_le, Option.bind_some, W_succ e (by unfold maxLen; omega)]
      by_cases q : L[j] ≤ X[v]
      · rw [decide_eq_true q, if_pos q]; rfl
      · rw [decide_eq_false q, if_neg q]; rfl
    · rw [dlt_f e, dif_neg e]; rfl
  have hc : (L.countP fun y => decide (y ≤ X[v])) ≤ L.length := List.countP_le_length
  have key : ∀ d j f, j + d = (L.countP fun y => decide (y ≤ X[v])) → d < f → F_spec_l05Price_l2 (frs D L) S (k : Int) (frs D X) f ((j : Nat) : Int) = some ((L.countP fun y => decide (y ≤ X[v]) : Nat) : Int) := by
    intro d
    induction d with
    | zero =>
      intro j f hj hf
      obtain ⟨f, rfl⟩ : ∃ g, f = g + 1 := ⟨f - 1, by omega⟩
      rw [hst]
      by_cases e : j < L.length
      · rw [dif_pos e, if_neg]
        · rw [← hj]; rfl
        · intro q
          have := (cnt_first hup j e).1 q
          omega
      · rw [dif_neg e, ← hj]; rfl
    | succ d ih =>
      intro j f hj hf
      obtain ⟨f, rfl⟩ : ∃ g, f = g + 1 := ⟨f - 1, by omega⟩
      have e : j < L.length := by omega
      rw [hst, dif_pos e, if_pos ((cnt_first hup j e).2 (by omega)), ih (j + 1) f (by omega) (by omega)]
  have h6 : (L.countP fun y => decide (y ≤ X[v])) < 1000 := by omega
  exact key _ 0 1000 (by omega) h6
section
variable {m : Nat} {C : List Nat} {A : List (Nat → Bool)} (h : Elec m C A)
include h
theorem kk6 {p : Nat} : kk A p ≤ 6 := Nat.le_trans kk_le h.a6
theorem spPriceL1 {D : Nat} {X : List Int} (hX : Pur D X) (hx : X.length = A.length) {p : Nat} :
    F_spec_l05Price_l1 (sup A p) (frs D X) ((sup A p).length + 1) [] 0 = some (frs D (srt (own A X p))) := by
  have hk : (sup A p).length ≤ 6 := kk6 h
  have key : ∀ k i f, i + k = (sup A p).length → k < f → F_spec_l05Price_l1 (sup A p) (frs D X) f (frs D (srt ((own A X p).take i))) (i : Int) = some (frs D (srt (own A X p))) := by
    refine up (P := fun i f => F_spec_l05Price_l1 (sup A p) (frs D X) f (frs D (srt ((own A X p).take i))) (i : Int) = some (frs D (srt (own A X p)))) (fun f => ?_) (fun i f hi ih => ?_)
    · rw [F_spec_l05Price_l1.eq_2, dlt_f (by omega), List.take_of_length_le (by rw [own_len]; exact Nat.le_refl _)]; rfl
    · obtain ⟨j, ej, hj, -⟩ := sup_mem (List.getElem_mem hi)
      have hjX : j < X.length := by omega
      have hlen : (srt ((own A X p).take i)).length ≤ i := by rw [srt_len, List.length_take]; omega
      have hsub : ∀ x ∈ srt ((own A X p).take i), x ∈ X := fun x hx' => own_mem hx (List.mem_of_mem_take (srt_mem.1 hx'))
      rw [F_spec_l05Price_l1.eq_2, dlt_t hi, cond_true, spPriceL2 hX hsub srt_up (by omega) hi hjX ej, Option.bind_some]
      generalize hcc : (srt ((own A X p).take i)).countP (fun y => decide (y ≤ X[j])) = c
      have hc : c ≤ (srt ((own A X p).take i)).length := by rw [← hcc]; exact List.countP_le_length
      have hnext : (frs D (srt ((own A X p).take i))).take c ++ [fr X[j] D] ++ (frs D (srt ((own A X p).take i))).drop c = frs D (srt ((own A X p).take (i + 1))) := by
        have hio : i < (own A X p).length := by rw [own_len]; exact hi
        have e0 : (own A X p)[i] = X[((sup A p)[i]).toNat]! := List.getElem_map ..
        have e1 : (own A X p)[i] = X[j] := by rw [e0, ej, Int.toNat_natCast, getElem!_pos X j hjX]
        rw [← List.take_append_getElem hio, srt_snoc, put_at srt_up, e1, hcc]
        unfold frs
        rw [List.map_append, List.map_cons, List.map_take, List.map_drop, List.append_assoc]
        rfl
      have hfl : (frs D (srt ((own A X p).take i))).length = (srt ((own A X p).take i)).length := frs_len
      rw [sub_ok0 (by rw [hfl]; exact hc), app_ok (by simp; omega), idx_nat hi, ej, idx_frs hjX, app_ok (by simp; omega), sub_ok (by rw [hfl]; exact hc) (Nat.le_refl _), app_ok (by simp; omega), Option.bind_some]
      simp only [List.nil_append, Int.toNat_natCast, Int.toNat_zero, List.drop_zero]
      rw [List.take_length, hnext, W_succ hi (by unfold maxLen; omega)]
      exact ih
  have := key (sup A p).length 0 ((sup A p).length + 1) (by omega) (by omega)
  rw [List.take_zero] at this
  exact this
end
end Go.FX
