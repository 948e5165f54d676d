/- The pure part: what the functions compute, in plain Lean, with no program in sight; no condition. -/
import Derived.Test.YtmeeomkjjnlaoaaRsPure23
namespace Go.FX
open Go Go.GL Go.RowKit
theorem imContains (l : List Int) (x : Int) (hl : l.length ≤ maxLen) : F_slices_Contains_int64_int64 l x = some (l.contains x) := by
  have h : F_slices_Index_int64_int64 l x = some (fidx (fun y => x == y) l) :=
    idxf_loop (F := F_slices_Index_int64_int64_l1 l x) (P := fun y => some (x == y)) _ (fun _ _ => rfl) hl (fun _ _ => rfl)
  unfold F_slices_Contains_int64_int64
  rw [h, Option.bind_some, fidx_ge, any_beq]
/-! the lists of options, round by round -/
def lastN (y : List Int) : Nat := (y.getLastD 0).toNat
def okK (lk : Nat → Nat → Bool) (y : List Int) (k : Nat) : Bool := !y.contains (k : Int) && lk (lastN y) k
def extK (lk : Nat → Nat → Bool) (y : List Int) (k : Nat) : List (List Int) := if okK lk y k = true then [y ++ [(k : Int)]] else []
def extL (n : Nat) (lk : Nat → Nat → Bool) (y : List Int) : List (List Int) := (List.range n).flatMap (extK lk y)
def shortP (n : Nat) (lk : Nat → Nat → Bool) (to : Nat) : Nat → List (List Int) → List Int
  | 0, _ => []
  | k + 1, S => match S.find? (fun y => okK lk y to) with
    | some y => y ++ [(to : Int)]
    | none => shortP n lk to k (S.flatMap (extL n lk))
theorem lastN_snoc {y : List Int} {k : Nat} : lastN (y ++ [(k : Int)]) = k := by
  unfold lastN
  rw [List.getLastD_concat]; rfl
theorem extK_len {lk : Nat → Nat → Bool} {y : List Int} {k : Nat} : (extK lk y k).length ≤ 1 := by unfold extK; split <;> simp
theorem extL_len {n : Nat} {lk : Nat → Nat → Bool} {y : List Int} : (extL n lk y).length ≤ n := by
  unfold extL
  induction n with
  | zero => simp
  | succ n ih =>
    rw [List.range_succ, List.flatMap_append, List.length_append]
    have := extK_len (lk := lk) (y := y) (k := n)
    simp only [List.flatMap_cons, List.flatMap_nil, List.append_nil]
    omega
theorem ext_mem {n : Nat} {lk : Nat → Nat → Bool} {y z : List Int} (h : z ∈ extL n lk y) : ∃ k, k < n ∧ okK lk y k = true ∧ z = y ++ [(k : Int)] := by
  unfold extL at h
  obtain ⟨k, hk, hz⟩ := List.mem_flatMap.1 h
  unfold extK at hz
  split at hz
  · rename_i hok
    exact ⟨k, List.mem_range.1 hk, hok, List.mem_singleton.1 hz⟩
  · cases hz
def WF (n r : Nat) (y : List Int) : Prop := y.length = r + 1 ∧ lastN y < n ∧ ∀ (h : r < y.length), y[r] = (lastN y : Int)
theorem WF.snoc {n r k : Nat} {y : List Int} (h : WF n r y) (hk : k < n) : WF n (r + 1) (y ++ [(k : Int)]) := by
  refine ⟨by simp [h.1], by rw [lastN_snoc]; exact hk, fun h2 => ?_⟩
  have h1 := h.1
  rw [lastN_snoc, List.getElem_append_right (by omega)]
  simp [h1]
section
variable {n : Nat} {lk : Nat → Nat → Bool} {ps : List (List Int)} {s : Int} {to : Nat} (hst : ∀ a b, a < n → b < n → F_impl_StrongestPath_1 (a : Int) (b : Int) ps s = some (lk a b)) (h6 : n ≤ 6)
include hst h6
theorem im_p3 {r : Nat} {y : List Int} (hy : WF n r y) (hr : r ≤ 100) : ∀ m b f, b + m = n → m < f → ∀ nx : List (List Int), nx.length ≤ 1000000 + b →
    F_impl_shortest__impl_StrongestPath_1_l3 (n : Int) y ps s (to : Int) f nx (b : Int) = some (bif decide (b ≤ to) && (decide (to < n) && okK lk y to) then Sum.inl (y ++ [(to : Int)]) else Sum.inr (nx ++ ((List.range n).drop b).flatMap (extK lk y))) := by
  obtain ⟨h1, h2, h3⟩ := hy
  refine up (P := fun b f => ∀ nx : List (List Int), nx.length ≤ 1000000 + b →
    F_impl_shortest__impl_StrongestPath_1_l3 (n : Int) y ps s (to : Int) f nx (b : Int) = some (bif decide (b ≤ to) && (decide (to < n) && okK lk y to) then Sum.inl (y ++ [(to : Int)]) else Sum.inr (nx ++ ((List.range n).drop b).flatMap (extK lk y)))) (fun f nx _ => ?_) (fun b f hb ih nx hn => ?_)
  · rw [F_impl_shortest__impl_StrongestPath_1_l3.eq_2, dlt_f (by omega), List.drop_of_length_le (by simp)]
    by_cases hto : n ≤ to
    · rw [decide_eq_false (show ¬ to < n by omega), Bool.false_and, Bool.and_false, cond_false, cond_false, List.flatMap_nil, List.append_nil]
    · rw [decide_eq_false hto, Bool.false_and, cond_false, cond_false, List.flatMap_nil, List.append_nil]
  · have hlast : ∀ {β : Type} (K : Int → Option β), idx y (IntKind.i64.wrap ((y.length : Int) - 1)) K = K (lastN y : Int) := fun K => by
      have hrl : r < y.length := by omega
      rw [W_id (by omega) (by omega), show ((y.length : Int) - 1) = (r : Int) by omega, idx_nat hrl, h3 hrl]
    have hq : (Option.bind ((F_slices_Contains_int64_int64 y (b : Int)).bind fun x71 => bif x71 then some true else (idx y (IntKind.i64.wrap ((List.length y : Int) - 1)) fun x81 => (F_impl_StrongestPath_1 x81 (b : Int) ps s).bind fun x87 => some (!x87))) : _ → Option (Sum (List Int) (List (List Int)))) = Option.bind (some (!okK lk y b)) := by
      congr 1
      rw [imContains y _ (by unfold maxLen; omega), Option.bind_some, hlast, hst _ b h2 hb]
      unfold okK
      cases y.contains (b : Int)
      · cases lk (lastN y) b <;> rfl
      · rfl
    rw [F_impl_shortest__impl_StrongestPath_1_l3.eq_2, dlt_t hb, cond_true, hq, Option.bind_some, W_succ hb (by unfold maxLen; omega), List.drop_eq_getElem_cons (i := b) (l := List.range n) (by simpa using hb), List.flatMap_cons, List.getElem_range]
    have hcl : F_slices_Clone_int64_int64 y = some y := by
      unfold F_slices_Clone_int64_int64
      rw [app_ok (by simp; omega)]; rfl
    cases hc : okK lk y b with
    | false =>
      rw [Bool.not_false, cond_true, ih nx (by omega)]
      have he : extK lk y b = [] := by unfold extK; rw [if_neg (by rw [hc]; decide)]
      rw [he, List.nil_append]
      by_cases hbt : b = to
      · subst hbt
        rw [hc, Bool.and_false, Bool.and_false, Bool.and_false]
      · rw [show decide (b ≤ to) = decide (b + 1 ≤ to) from decide_eq_decide.2 (by omega)]
    | true =>
      have he : extK lk y b = [y ++ [(b : Int)]] := by unfold extK; rw [if_pos hc]
      rw [Bool.not_true, cond_false, hcl, Option.bind_some, app_ok (by simp; omega), he]
      by_cases hbt : b = to
      · subst hbt
        rw [beq_self_eq_true, cond_true, hc, decide_eq_true (Nat.le_refl b), decide_eq_true hb]; rfl
      · rw [beq_eq_false_iff_ne.2 (show (b : Int) ≠ (to : Int) by omega), cond_false, app_ok (by simp; omega), ih _ (by simp; omega), show decide (b ≤ to) = decide (b + 1 ≤ to) from decide_eq_decide.2 (by omega), List.append_assoc]
theorem im_p2 {r : Nat} {S : List (List Int)} (hto : to < n) (hr : r ≤ 100) (hS : ∀ y ∈ S, WF n r y) (hl : S.length ≤ 100000) : ∀ m i f, i + m = S.length → m < f → ∀ nx : List (List Int), nx.length ≤ 6 * i →
    F_impl_shortest__impl_StrongestPath_1_l2 S (n : Int) ps s (to : Int) f nx (i : Int) = some (match (S.drop i).find? (fun y => okK lk y to) with | some y => Sum.inl (y ++ [(to : Int)]) | none => Sum.inr (nx ++ (S.drop i).flatMap (extL n lk))) := by
  refine up (P := fun i f => ∀ nx : List (List Int), nx.length ≤ 6 * i →
    F_impl_shortest__impl_StrongestPath_1_l2 S (n : Int) ps s (to : Int) f nx (i : Int) = some (match (S.drop i).find? (fun y => okK lk y to) with | some y => Sum.inl (y ++ [(to : Int)]) | none => Sum.inr (nx ++ (S.drop i).flatMap (extL n lk)))) (fun f nx _ => ?_) (fun i f hi ih nx hn => ?_)
  · rw [F_impl_shortest__impl_StrongestPath_1_l2.eq_2, dlt_f (by omega), List.drop_length, List.find?_nil, List.flatMap_nil, List.append_nil, cond_false]
  · have h3 := im_p3 (to := to) hst h6 (hS _ (List.getElem_mem hi)) hr n 0 (Int.toNat ((n : Int) - 0) + 2) (by omega) (by omega) nx (by omega)
    rw [show ((0 : Nat) : Int) = 0 from rfl, List.drop_zero, decide_eq_true (Nat.zero_le to), decide_eq_true hto, Bool.true_and, Bool.true_and] at h3
    have hel := extL_len (n := n) (lk := lk) (y := S[i])
    rw [F_impl_shortest__impl_StrongestPath_1_l2.eq_2, dlt_t hi, cond_true, idx_nat hi, h3, W_succ hi (by unfold maxLen; omega), List.drop_eq_getElem_cons hi, List.find?_cons, List.flatMap_cons]
    cases hc : okK lk S[i] to with
    | true => rfl
    | false =>
      show F_impl_shortest__impl_StrongestPath_1_l2 S (n : Int) ps s (to : Int) f (nx ++ extL n lk S[i]) ((i + 1 : Nat) : Int) = _
      rw [ih _ (by rw [List.length_append]; omega), List.append_assoc]
theorem im_p1 (hto : to < n) : ∀ m r f, r + m = n → m < f → ∀ S : List (List Int), (∀ y ∈ S, WF n r y) → S.length ≤ 6 ^ r → F_impl_shortest__impl_StrongestPath_1_l1 (n : Int) ps s (to : Int) f S (r : Int) = some (shortP n lk to (n - r) S) := by
  refine up (P := fun r f => ∀ S : List (List Int), (∀ y ∈ S, WF n r y) → S.length ≤ 6 ^ r → F_impl_shortest__impl_StrongestPath_1_l1 (n : Int) ps s (to : Int) f S (r : Int) = some (shortP n lk to (n - r) S)) (fun f S _ _ => ?_) (fun r f hr ih S hS hl => ?_)
  · rw [F_impl_shortest__impl_StrongestPath_1_l1.eq_2, dlt_f (by omega), Nat.sub_self]; rfl
  · have h66 : 6 ^ r ≤ 46656 := Nat.le_trans (Nat.pow_le_pow_right (by decide) (show r ≤ 6 by omega)) (by decide)
    have h2 := im_p2 (to := to) hst h6 hto (r := r) (S := S) (by omega) hS (by omega) S.length 0 (S.length + 1) (by omega) (by omega) [] (by simp)
    rw [show ((0 : Nat) : Int) = 0 from rfl, List.drop_zero, List.nil_append] at h2
    rw [F_impl_shortest__impl_StrongestPath_1_l1.eq_2, dlt_t hr, cond_true, h2, W_succ hr (by unfold maxLen; omega), show n - r = (n - (r + 1)) + 1 by omega]
    unfold shortP
    cases hf : S.find? (fun y => okK lk y to) with
    | some y => rfl
    | none =>
      have hx : ∀ T : List (List Int), (T.flatMap (extL n lk)).length ≤ 6 * T.length := by
        intro T
        induction T with
        | nil => simp
        | cons a T ihT =>
          rw [List.flatMap_cons, List.length_append, List.length_cons]
          have := extL_len (n := n) (lk := lk) (y := a)
          omega
      have := hx S
      show F_impl_shortest__impl_StrongestPath_1_l1 (n : Int) ps s (to : Int) f (S.flatMap (extL n lk)) ((r + 1 : Nat) : Int) = _
      exact ih _ (fun y hy => by
        obtain ⟨z, hz, hyz⟩ := List.mem_flatMap.1 hy
        obtain ⟨k, hk, -, rfl⟩ := ext_mem hyz
        exact (hS z hz).snoc hk) (by rw [Nat.pow_succ]; omega)
theorem imShortP {fr : Nat} (hfr : fr < n) (hto : to < n) : F_impl_shortest__impl_StrongestPath_1 (n : Int) (fr : Int) (to : Int) ps s = some (shortP n lk to n [[(fr : Int)]]) := by
  have := im_p1 (to := to) hst h6 hto n 0 (Int.toNat ((n : Int) - 0) + 2) (by omega) (by omega) [[(fr : Int)]] (fun y hy => by
    rw [List.mem_singleton.1 hy]
    exact ⟨rfl, hfr, fun _ => rfl⟩) (by simp)
  exact this
end
/-! what they find -/
def Reach (n : Nat) (lk : Nat → Nat → Bool) (a c : Nat) : Prop := ∀ C : Nat → Prop, C a → (∀ x y, x < n → y < n → C x → lk x y = true → C y) → C c
theorem Reach.refl {n : Nat} {lk : Nat → Nat → Bool} {a : Nat} : Reach n lk a a := fun _ h _ => h
theorem Reach.step {n : Nat} {lk : Nat → Nat → Bool} {a c k : Nat} (h : Reach n lk a c) (hc : c < n) (hk : k < n) (hl : lk c k = true) : Reach n lk a k := fun C h0 hs => hs c k hc hk (h C h0 hs) hl
theorem short_none {n : Nat} {lk : Nat → Nat → Bool} {fr to : Nat} (hto : to < n) (hR : ¬ Reach n lk fr to) : ∀ (k : Nat) (S : List (List Int)), (∀ y ∈ S, lastN y < n ∧ Reach n lk fr (lastN y)) → shortP n lk to k S = [] := by
  intro k
  induction k with
  | zero => intro S _; rfl
  | succ k ih =>
    intro S hS
    unfold shortP
    have hf : S.find? (fun y => okK lk y to) = none := by
      rw [List.find?_eq_none]
      intro y hy hok
      obtain ⟨h1, h2⟩ := hS y hy
      unfold okK at hok
      rw [Bool.and_eq_true] at hok
      exact hR (h2.step h1 hto hok.2)
    rw [hf]
    refine ih _ fun y hy => ?_
    obtain ⟨z, hz, hyz⟩ := List.mem_flatMap.1 hy
    obtain ⟨j, hj, hok, rfl⟩ := ext_mem hyz
    obtain ⟨h1, h2⟩ := hS z hz
    unfold okK at hok
    rw [Bool.and_eq_true] at hok
    rw [lastN_snoc]
    exact ⟨hj, h2.step h1 hj hok.2⟩
theorem short_least {n : Nat} {Lk : Nat → Nat → Int} {t : Int} {to : Nat} {φ : Nat → Int} (hF : Far n Lk t to φ) (hto : to < n) : ∀ (l : List Nat) (k : Nat) (A B : List (List Int)) (x : List Int), l ≠ [] → l.length ≤ k → lastN x < n → φ (lastN x) = (l.length : Int) → Gp n Lk t to φ (lastN x) l → (∀ v ∈ x, ∃ a : Nat, v = (a : Int) ∧ (l.length : Int) ≤ φ a) →
    (∀ y ∈ A, lastN y < n ∧ (φ (lastN y) < 0 ∨ (l.length : Int) + 1 ≤ φ (lastN y))) → (∀ y ∈ B, lastN y < n ∧ (φ (lastN y) < 0 ∨ (l.length : Int) ≤ φ (lastN y))) → shortP n (lnk Lk t) to k (A ++ x :: B) = x ++ l.map Int.ofNat := by
  have hz := hF.good.1
  intro l
  induction l with
  | nil => intro k A B x h; exact absurd rfl h
  | cons g l ih =>
    intro k A B x _ hk hx hφ hG hel hA hB
    obtain ⟨k, rfl⟩ : ∃ j, k = j + 1 := ⟨k - 1, by simp at hk; omega⟩
    obtain ⟨hg, hlg, hφg, hmin, hG2⟩ := hG
    have hgx : x.contains (g : Int) = false := by
      rw [Bool.eq_false_iff]
      intro hc
      obtain ⟨a, ha, hfa⟩ := hel _ (List.contains_iff_mem.1 hc)
      have : g = a := by omega
      subst this
      omega
    have hokg : okK (lnk Lk t) x g = true := by unfold okK; rw [hgx, hlg]; rfl
    unfold shortP
    have noA : ∀ y ∈ A, okK (lnk Lk t) y to = false := fun y hy => by
      obtain ⟨h1, h2⟩ := hA y hy
      rw [Bool.eq_false_iff]
      intro hok
      unfold okK at hok
      rw [Bool.and_eq_true] at hok
      have := hF.clo _ _ h1 hto hok.2 (by omega)
      rw [hz] at this
      simp only [List.length_cons] at h2
      omega
    have hfA : A.find? (fun y => okK (lnk Lk t) y to) = none := List.find?_eq_none.2 fun y hy => by rw [noA y hy]; decide
    cases l with
    | nil =>
      have hgt : g = to := hG2
      subst hgt
      rw [List.find?_append, hfA, Option.none_or, List.find?_cons, hokg]
      rfl
    | cons g2 l2 =>
      have hlen : (2 : Int) ≤ ((g :: g2 :: l2).length : Int) := by simp only [List.length_cons]; omega
      have noX : okK (lnk Lk t) x to = false := by
        rw [Bool.eq_false_iff]
        intro hok
        unfold okK at hok
        rw [Bool.and_eq_true] at hok
        have := hF.clo _ _ hx hto hok.2 (by omega)
        rw [hz] at this
        omega
      have noB : ∀ y ∈ B, okK (lnk Lk t) y to = false := fun y hy => by
        obtain ⟨h1, h2⟩ := hB y hy
        rw [Bool.eq_false_iff]
        intro hok
        unfold okK at hok
        rw [Bool.and_eq_true] at hok
        have := hF.clo _ _ h1 hto hok.2 (by omega)
        rw [hz] at this
        omega
      have hfS : (A ++ x :: B).find? (fun y => okK (lnk Lk t) y to) = none := List.find?_eq_none.2 fun y hy => by
        rcases List.mem_append.1 hy with h | h
        · rw [noA y h]; decide
        · rcases List.mem_cons.1 h with rfl | h
          · rw [noX]; decide
          · rw [noB y h]; decide
      have hrange : List.range n = List.range g ++ g :: (List.range n).drop (g + 1) := by
        have h1 : (List.range n).take g = List.range g := by rw [List.take_range, Nat.min_eq_left (Nat.le_of_lt hg)]
        rw [← h1]
        conv => lhs; rw [← List.take_append_drop g (List.range n), List.drop_eq_getElem_cons (by simpa using hg), List.getElem_range]
      have hex : extL n (lnk Lk t) x = (List.range g).flatMap (extK (lnk Lk t) x) ++ (x ++ [(g : Int)]) :: ((List.range n).drop (g + 1)).flatMap (extK (lnk Lk t) x) := by
        unfold extL
        conv => lhs; rw [hrange]
        rw [List.flatMap_append, List.flatMap_cons]
        have : extK (lnk Lk t) x g = [x ++ [(g : Int)]] := by unfold extK; rw [if_pos hokg]
        rw [this]; rfl
      rw [hfS]
      show shortP n (lnk Lk t) to k ((A ++ x :: B).flatMap (extL n (lnk Lk t))) = _
      rw [List.flatMap_append, List.flatMap_cons, hex]
      have hcomm : A.flatMap (extL n (lnk Lk t)) ++ ((List.range g).flatMap (extK (lnk Lk t) x) ++ (x ++ [(g : Int)]) :: ((List.range n).drop (g + 1)).flatMap (extK (lnk Lk t) x) ++ B.flatMap (extL n (lnk Lk t))) =
          (A.flatMap (extL n (lnk Lk t)) ++ (List.range g).flatMap (extK (lnk Lk t) x)) ++ (x ++ [(g : Int)]) :: (((List.range n).drop (g + 1)).flatMap (extK (lnk Lk t) x) ++ B.flatMap (extL n (lnk Lk t))) := by
        simp only [List.append_assoc, List.cons_append]
      have drop1 : ∀ (y : List Int) (j : Nat), lastN y < n → j < n → okK (lnk Lk t) y j = true → φ j < 0 ∨ (0 ≤ φ (lastN y) ∧ φ (lastN y) ≤ φ j + 1) := fun y j h1 h2 hok => by
        unfold okK at hok
        rw [Bool.and_eq_true] at hok
        by_cases h0 : 0 ≤ φ j
        · exact .inr (hF.clo _ _ h1 h2 hok.2 h0)
        · exact .inl (by omega)
      rw [hcomm, ih k (A.flatMap (extL n (lnk Lk t)) ++ (List.range g).flatMap (extK (lnk Lk t) x)) _ (x ++ [(g : Int)]) (by simp) (by simp at hk ⊢; omega) (by rw [lastN_snoc]; exact hg) (by rw [lastN_snoc, hφg, hφ]; simp) (by rw [lastN_snoc]; exact hG2) (fun v hv => ?_) (fun y hy => ?_) (fun y hy => ?_)]
      · rw [List.append_assoc]; rfl
      · rcases List.mem_append.1 hv with h | h
        · obtain ⟨a, ha, hfa⟩ := hel v h
          exact ⟨a, ha, by simp only [List.length_cons] at hfa ⊢; omega⟩
        · exact ⟨g, List.mem_singleton.1 h, by rw [hφg, hφ]; simp⟩
      · rcases List.mem_append.1 hy with h | h
        · obtain ⟨z, hz2, hyz⟩ := List.mem_flatMap.1 h
          obtain ⟨j, hj, hok, rfl⟩ := ext_mem hyz
          obtain ⟨h1, h2⟩ := hA z hz2
          rw [lastN_snoc]
          refine ⟨hj, ?_⟩
          have := drop1 z j h1 hj hok
          simp only [List.length_cons] at h2 ⊢
          omega
        · obtain ⟨j, hj, hyj⟩ := List.mem_flatMap.1 h
          have hj := List.mem_range.1 hj
          unfold extK at hyj
          split at hyj
          · rename_i hok
            rw [List.mem_singleton.1 hyj, lastN_snoc]
            refine ⟨by omega, ?_⟩
            have h2 := drop1 x j hx (by omega) hok
            have h3 : φ j ≠ φ (lastN x) - 1 := hmin j hj (by
              unfold okK at hok
              rw [Bool.and_eq_true] at hok
              exact hok.2)
            simp only [List.length_cons] at hφ ⊢
            omega
          · cases hyj
      · rcases List.mem_append.1 hy with h | h
        · obtain ⟨j, hj, hyj⟩ := List.mem_flatMap.1 h
          have hj := List.mem_range.1 (List.mem_of_mem_drop hj)
          unfold extK at hyj
          split at hyj
          · rename_i hok
            rw [List.mem_singleton.1 hyj, lastN_snoc]
            refine ⟨hj, ?_⟩
            have h2 := drop1 x j hx hj hok
            simp only [List.length_cons] at hφ ⊢
            omega
          · cases hyj
        · obtain ⟨z, hz2, hyz⟩ := List.mem_flatMap.1 h
          obtain ⟨j, hj, hok, rfl⟩ := ext_mem hyz
          obtain ⟨h1, h2⟩ := hB z hz2
          rw [lastN_snoc]
          refine ⟨hj, ?_⟩
          have := drop1 z j h1 hj hok
          simp only [List.length_cons] at h2 ⊢
          omega
end Go.FX
