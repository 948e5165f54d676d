/- The pure part: what the functions compute, in plain Lean, with no program in sight; no condition. -/
import Derived.Test.YtmeeomkjjnlaoaaRlPure13
namespace Go.FX
open Go Go.GL Go.RowKit
theorem imContains (l : List Int) (x : Int) (hl : l.length ≤ maxLen) : F_slices_Contains_int64_int64 l x = some (l.contains x) := by
  have h : F_slices_Index_int64_int64 l x = some (fidx (fun y => x == y) l) :=
    idxf_loop (F := F_slices_Index_int64_int64_l1 l x) (P := fun y => some (x == y)) _ (fun _ _ => rfl) hl (fun _ _ => rfl)
  unfold F_slices_Contains_int64_int64
  rw [h, Option.bind_some, fidx_ge, any_beq]
/-! ways -/
def Reach (n : Nat) (lk : Nat → Nat → Bool) (a c : Nat) : Prop := ∀ C : Nat → Prop, C a → (∀ x y, x < n → y < n → C x → lk x y = true → C y) → C c
theorem Reach.refl {n : Nat} {lk : Nat → Nat → Bool} {a : Nat} : Reach n lk a a := fun _ h _ => h
theorem Reach.step {n : Nat} {lk : Nat → Nat → Bool} {a c k : Nat} (h : Reach n lk a c) (hc : c < n) (hk : k < n) (hl : lk c k = true) : Reach n lk a k := fun C h0 hs => hs c k hc hk (h C h0 hs) hl
section
variable {n : Nat} {Lk : Nat → Nat → Int} {D : List DDuel} {g : GInt} {lk : List Bool} {fr to : Nat} (hst : ∀ a b, a < n → b < n → F_impl_circle_1 (a : Int) (b : Int) D g lk = some (lnk Lk a b)) (h6 : n ≤ 6)
include hst h6
theorem im_s3 {r c : Nat} {x : List Int} (hx : x.length = r + 1) (hr : r ≤ 100) (hc : c < n) (hxc : x[r]? = some (c : Int)) (hR : Reach n (lnk Lk) fr c) : ∀ m b f, b + m = n → m < f → ∀ nx : List (List Int), nx.length ≤ 1000000 + b →
    (∃ q, F_impl_shortest__impl_circle_1_l3 (n : Int) x D g lk (to : Int) f nx (b : Int) = some (Sum.inl q) ∧ q ≠ [] ∧ Reach n (lnk Lk) fr to) ∨
    (∃ ex, F_impl_shortest__impl_circle_1_l3 (n : Int) x D g lk (to : Int) f nx (b : Int) = some (Sum.inr (nx ++ ex)) ∧ ex.length ≤ n - b ∧ (∀ y ∈ ex, ∃ k, k < n ∧ lnk Lk c k = true ∧ y = x ++ [(k : Int)]) ∧ ∀ k, b ≤ k → k < n → lnk Lk c k = true → (k : Int) ∉ x → k ≠ to ∧ x ++ [(k : Int)] ∈ ex) := by
  refine up (P := fun b f => ∀ nx : List (List Int), nx.length ≤ 1000000 + b →
    (∃ q, F_impl_shortest__impl_circle_1_l3 (n : Int) x D g lk (to : Int) f nx (b : Int) = some (Sum.inl q) ∧ q ≠ [] ∧ Reach n (lnk Lk) fr to) ∨
    (∃ ex, F_impl_shortest__impl_circle_1_l3 (n : Int) x D g lk (to : Int) f nx (b : Int) = some (Sum.inr (nx ++ ex)) ∧ ex.length ≤ n - b ∧ (∀ y ∈ ex, ∃ k, k < n ∧ lnk Lk c k = true ∧ y = x ++ [(k : Int)]) ∧ ∀ k, b ≤ k → k < n → lnk Lk c k = true → (k : Int) ∉ x → k ≠ to ∧ x ++ [(k : Int)] ∈ ex)) (fun f nx _ => ?_) (fun b f hb ih nx hn => ?_)
  · right
    rw [F_impl_shortest__impl_circle_1_l3.eq_2, dlt_f (by omega)]
    exact ⟨[], by rw [List.append_nil]; rfl, by simp, fun y hy => (by cases hy), fun k h1 h2 => by omega⟩
  · have hlast : ∀ {β : Type} (K : Int → Option β), idx x (IntKind.i64.wrap ((x.length : Int) - 1)) K = K (c : Int) := fun K => by
      have hrl : r < x.length := by omega
      rw [W_id (by omega) (by omega), show ((x.length : Int) - 1) = (r : Int) by omega, idx_nat hrl]
      rw [List.getElem?_eq_getElem hrl] at hxc
      rw [Option.some.inj hxc]
    have hq : (Option.bind ((F_slices_Contains_int64_int64 x (b : Int)).bind fun x71 => bif x71 then some true else (idx x (IntKind.i64.wrap ((List.length x : Int) - 1)) fun x81 => (F_impl_circle_1 x81 (b : Int) D g lk).bind fun x87 => some (!x87))) : _ → Option (Sum (List Int) (List (List Int)))) = Option.bind (some (x.contains (b : Int) || !lnk Lk c b)) := by
      congr 1
      rw [imContains x _ (by unfold maxLen; omega), Option.bind_some, hlast, hst c b hc hb]
      cases x.contains (b : Int) <;> rfl
    rw [F_impl_shortest__impl_circle_1_l3.eq_2, dlt_t hb, cond_true, hq, Option.bind_some, W_succ hb (by unfold maxLen; omega)]
    cases hcc : x.contains (b : Int) || !lnk Lk c b with
    | true =>
      rw [cond_true]
      rcases ih nx (by omega) with h | ⟨ex, e1, e2, e3, e4⟩
      · exact .inl h
      · refine .inr ⟨ex, e1, by omega, e3, fun k h1 h2 h3 h4 => ?_⟩
        by_cases hkb : k = b
        · subst hkb
          rw [Bool.or_eq_true, List.contains_iff_mem, h3] at hcc
          rcases hcc with h | h
          · exact absurd h h4
          · cases h
        · exact e4 k (by omega) h2 h3 h4
    | false =>
      rw [Bool.or_eq_false_iff] at hcc
      have hl : lnk Lk c b = true := by simpa using hcc.2
      have hcl : F_slices_Clone_int64_int64 x = some x := by
        unfold F_slices_Clone_int64_int64
        rw [app_ok (by simp; omega)]; rfl
      rw [cond_false, hcl, Option.bind_some, app_ok (by simp; omega)]
      by_cases hbt : b = to
      · subst hbt
        rw [beq_self_eq_true, cond_true]
        exact .inl ⟨_, rfl, by simp, hR.step hc hb hl⟩
      · rw [beq_eq_false_iff_ne.2 (show (b : Int) ≠ (to : Int) by omega), cond_false, app_ok (by simp; omega)]
        rcases ih (nx ++ [x ++ [(b : Int)]]) (by simp; omega) with h | ⟨ex, e1, e2, e3, e4⟩
        · exact .inl h
        · refine .inr ⟨(x ++ [(b : Int)]) :: ex, by rw [e1, List.append_assoc]; rfl, by rw [List.length_cons]; omega, fun y hy => ?_, fun k h1 h2 h3 h4 => ?_⟩
          · rcases List.mem_cons.1 hy with h | h
            · exact ⟨b, hb, hl, h⟩
            · exact e3 y h
          · by_cases hkb : k = b
            · subst hkb; exact ⟨hbt, List.mem_cons_self ..⟩
            · obtain ⟨h5, h6⟩ := e4 k (by omega) h2 h3 h4
              exact ⟨h5, List.mem_cons_of_mem _ h6⟩
def OkX (n : Nat) (Lk : Nat → Nat → Int) (fr r : Nat) (x : List Int) : Prop := x.length = r + 1 ∧ ∃ c : Nat, c < n ∧ x[r]? = some (c : Int) ∧ Reach n (lnk Lk) fr c
omit hst h6 in
theorem OkX.snoc {r : Nat} {x : List Int} {c k : Nat} (hx : x.length = r + 1) (hc : c < n) (hR : Reach n (lnk Lk) fr c) (hk : k < n) (hl : lnk Lk c k = true) : OkX n Lk fr (r + 1) (x ++ [(k : Int)]) :=
  ⟨by simp [hx], k, hk, by rw [List.getElem?_append_right (by omega), hx, Nat.sub_self]; rfl, hR.step hc hk hl⟩
theorem im_s2 {r : Nat} {S : List (List Int)} (hr : r ≤ 100) (hS : ∀ x ∈ S, OkX n Lk fr r x) (hl : S.length ≤ 100000) : ∀ m i f, i + m = S.length → m < f → ∀ nx : List (List Int), nx.length ≤ 6 * i →
    (∃ q, F_impl_shortest__impl_circle_1_l2 S (n : Int) D g lk (to : Int) f nx (i : Int) = some (Sum.inl q) ∧ q ≠ [] ∧ Reach n (lnk Lk) fr to) ∨
    (∃ ex, F_impl_shortest__impl_circle_1_l2 S (n : Int) D g lk (to : Int) f nx (i : Int) = some (Sum.inr (nx ++ ex)) ∧ ex.length ≤ 6 * (S.length - i) ∧ (∀ y ∈ ex, OkX n Lk fr (r + 1) y) ∧ ∀ x ∈ S.drop i, ∀ c k, c < n → k < n → x[r]? = some (c : Int) → lnk Lk c k = true → (k : Int) ∉ x → k ≠ to ∧ x ++ [(k : Int)] ∈ ex) := by
  refine up (P := fun i f => ∀ nx : List (List Int), nx.length ≤ 6 * i →
    (∃ q, F_impl_shortest__impl_circle_1_l2 S (n : Int) D g lk (to : Int) f nx (i : Int) = some (Sum.inl q) ∧ q ≠ [] ∧ Reach n (lnk Lk) fr to) ∨
    (∃ ex, F_impl_shortest__impl_circle_1_l2 S (n : Int) D g lk (to : Int) f nx (i : Int) = some (Sum.inr (nx ++ ex)) ∧ ex.length ≤ 6 * (S.length - i) ∧ (∀ y ∈ ex, OkX n Lk fr (r + 1) y) ∧ ∀ x ∈ S.drop i, ∀ c k, c < n → k < n → x[r]? = some (c : Int) → lnk Lk c k = true → (k : Int) ∉ x → k ≠ to ∧ x ++ [(k : Int)] ∈ ex)) (fun f nx _ => ?_) (fun i f hi ih nx hn => ?_)
  · right
    rw [F_impl_shortest__impl_circle_1_l2.eq_2, dlt_f (by omega), List.drop_length]
    exact ⟨[], by rw [List.append_nil]; rfl, by simp, fun y hy => (by cases hy), fun x hx => by cases hx⟩
  · obtain ⟨hx, c, hc, hxc, hR⟩ := hS _ (List.getElem_mem hi)
    have h3 := im_s3 (fr := fr) (to := to) hst h6 hx hr hc hxc hR n 0 (Int.toNat ((n : Int) - 0) + 2) (by omega) (by omega) nx (by omega)
    rw [show ((0 : Nat) : Int) = 0 from rfl] at h3
    rw [F_impl_shortest__impl_circle_1_l2.eq_2, dlt_t hi, cond_true, idx_nat hi, W_succ hi (by unfold maxLen; omega)]
    rcases h3 with ⟨q, q1, q2, q3⟩ | ⟨ex1, a1, a2, a3, a4⟩
    · left
      rw [q1]
      exact ⟨q, rfl, q2, q3⟩
    · rw [a1]
      show (∃ q, F_impl_shortest__impl_circle_1_l2 S (n : Int) D g lk (to : Int) f (nx ++ ex1) ((i + 1 : Nat) : Int) = some (Sum.inl q) ∧ _) ∨ (∃ ex, F_impl_shortest__impl_circle_1_l2 S (n : Int) D g lk (to : Int) f (nx ++ ex1) ((i + 1 : Nat) : Int) = some (Sum.inr (nx ++ ex)) ∧ _)
      rcases ih (nx ++ ex1) (by rw [List.length_append]; omega) with h | ⟨ex, e1, e2, e3, e4⟩
      · exact .inl h
      · refine .inr ⟨ex1 ++ ex, by rw [e1, List.append_assoc], by rw [List.length_append]; omega, fun y hy => ?_, fun x hx2 c' k h1 h2 h5 h7 h8 => ?_⟩
        · rcases List.mem_append.1 hy with h | h
          · obtain ⟨k, hk, hlk, rfl⟩ := a3 y h
            exact OkX.snoc hx hc hR hk hlk
          · exact e3 y h
        · rw [List.drop_eq_getElem_cons hi] at hx2
          rcases List.mem_cons.1 hx2 with h | h
          · subst h
            rw [hxc] at h5
            have hcc : c = c' := by have := Option.some.inj h5; omega
            subst hcc
            obtain ⟨h9, h10⟩ := a4 k (by omega) h2 h7 h8
            exact ⟨h9, List.mem_append_left _ h10⟩
          · obtain ⟨h9, h10⟩ := e4 x h c' k h1 h2 h5 h7 h8
            exact ⟨h9, List.mem_append_right _ h10⟩
def Cmp (n : Nat) (φ : Nat → Int) (r : Nat) (e : Nat) (S : List (List Int)) : Prop := ∃ x ∈ S, ∃ c : Nat, c < n ∧ x[r]? = some (c : Int) ∧ φ c = (e : Int) ∧ ∀ y ∈ x, ∃ a : Nat, y = (a : Int) ∧ (e : Int) ≤ φ a
theorem im_s1 {φ : Nat → Int} (hF : Far n Lk to φ) : ∀ m r f, r + m = n → m < f → ∀ S : List (List Int), (∀ x ∈ S, OkX n Lk fr r x) → S.length ≤ 6 ^ r →
    ∃ res, F_impl_shortest__impl_circle_1_l1 (n : Int) D g lk (to : Int) f S (r : Int) = some res ∧ (res ≠ [] → Reach n (lnk Lk) fr to) ∧ ((∃ e, 1 ≤ e ∧ e + r ≤ n ∧ Cmp n φ r e S) → res ≠ []) := by
  refine up (P := fun r f => ∀ S : List (List Int), (∀ x ∈ S, OkX n Lk fr r x) → S.length ≤ 6 ^ r →
    ∃ res, F_impl_shortest__impl_circle_1_l1 (n : Int) D g lk (to : Int) f S (r : Int) = some res ∧ (res ≠ [] → Reach n (lnk Lk) fr to) ∧ ((∃ e, 1 ≤ e ∧ e + r ≤ n ∧ Cmp n φ r e S) → res ≠ [])) (fun f S _ _ => ?_) (fun r f hr ih S hS hl => ?_)
  · rw [F_impl_shortest__impl_circle_1_l1.eq_2, dlt_f (by omega)]
    exact ⟨[], rfl, fun h => absurd rfl h, fun ⟨e, h1, h2, _⟩ => by omega⟩
  · have h66 : 6 ^ r ≤ 46656 := Nat.le_trans (Nat.pow_le_pow_right (by decide) (show r ≤ 6 by omega)) (by decide)
    have h2 := im_s2 (fr := fr) (to := to) hst h6 (r := r) (S := S) (by omega) hS (by omega) S.length 0 (S.length + 1) (by omega) (by omega) [] (by simp)
    rw [show ((0 : Nat) : Int) = 0 from rfl] at h2
    rw [F_impl_shortest__impl_circle_1_l1.eq_2, dlt_t hr, cond_true, W_succ hr (by unfold maxLen; omega)]
    rcases h2 with ⟨q, q1, q2, q3⟩ | ⟨ex, e1, e2, e3, e4⟩
    · rw [q1]
      exact ⟨q, rfl, fun _ => q3, fun _ => q2⟩
    · rw [e1, List.nil_append]
      obtain ⟨res, r1, r2, r3⟩ := ih ex e3 (by rw [Nat.pow_succ]; omega)
      refine ⟨res, r1, r2, fun ⟨e, he1, he2, x, hx, c, hc, hxc, hφ, hall⟩ => ?_⟩
      obtain ⟨k, hk, hlk, hφk⟩ : ∃ k, k < n ∧ lnk Lk c k = true ∧ φ k = φ c - 1 := by
        rcases hF.good.2 c hc with h | ⟨h, -⟩ | ⟨-, h⟩
        · omega
        · omega
        · exact h
      have hkx : (k : Int) ∉ x := fun hm => by
        obtain ⟨a, ha, hφa⟩ := hall _ hm
        have : k = a := by omega
        subst this
        omega
      obtain ⟨h7, h8⟩ := e4 x (by rw [List.drop_zero]; exact hx) c k hc hk hxc hlk hkx
      have he3 : 2 ≤ e := Classical.byContradiction fun hlt => by
        rcases hF.good.2 k hk with h | ⟨-, h⟩ | ⟨h, -⟩
        · omega
        · exact h7 h
        · omega
      refine r3 ⟨e - 1, by omega, by omega, x ++ [(k : Int)], h8, k, hk, ?_, by omega, fun y hy => ?_⟩
      · have := (hS x hx).1
        rw [List.getElem?_append_right (by omega), this, Nat.sub_self]; rfl
      · rcases List.mem_append.1 hy with h | h
        · obtain ⟨a, ha, hφa⟩ := hall y h
          exact ⟨a, ha, by omega⟩
        · exact ⟨k, List.mem_singleton.1 h, by omega⟩
theorem imShort {φ : Nat → Int} (hF : Far n Lk to φ) (hfr : fr < n) (hne : fr ≠ to) : ∃ res, F_impl_shortest__impl_circle_1 (n : Int) (fr : Int) (to : Int) D g lk = some res ∧ (res = [] ↔ φ fr < 0) := by
  obtain ⟨res, r1, r2, r3⟩ := im_s1 (fr := fr) hst h6 hF n 0 (Int.toNat ((n : Int) - 0) + 2) (by omega) (by omega) [[(fr : Int)]] (fun x hx => by
    rw [List.mem_singleton.1 hx]
    exact ⟨rfl, fr, hfr, rfl, Reach.refl⟩) (by simp)
  refine ⟨res, r1, fun h => Classical.byContradiction fun h0 => ?_, fun h => Classical.byContradiction fun hres => ?_⟩
  · have h1 : 1 ≤ φ fr := by
      rcases hF.good.2 fr hfr with h2 | ⟨-, h2⟩ | ⟨h2, -⟩
      · omega
      · exact absurd h2 hne
      · exact h2
    have hlt := good_lt hF.good hfr
    refine r3 ⟨(φ fr).toNat, by omega, by omega, [(fr : Int)], List.mem_singleton.2 rfl, fr, hfr, rfl, by omega, fun y hy => ⟨fr, List.mem_singleton.1 hy, by omega⟩⟩ h
  · have hR := r2 hres
    have := hR (fun x => 0 ≤ φ x → 0 ≤ φ fr) (fun h => h) (fun x y hx hy hC hl h0 => hC (hF.clo x y hx hy hl h0))
    rw [hF.good.1] at this
    have := this (by omega)
    omega
end
end Go.FX
