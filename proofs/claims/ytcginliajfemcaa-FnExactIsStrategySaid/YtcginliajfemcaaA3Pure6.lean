/- The pure part: what the functions compute, in plain Lean, with no program in sight; no condition. -/
import Derived.Test.YtcginliajfemcaaA3Pure5
namespace Go.FX
open Go Go.GL Go.RowKit
/-! reducts -/
def cell2 (L : List (Nat × Nat)) (W : List Int) (i k : Nat) : List (List Int) := match W[i]?, W[k]? with
  | some a, some b => if att L a.toNat b.toNat then [[(i : Int), (k : Int)]] else []
  | _, _ => []
theorem cell2_len {L : List (Nat × Nat)} {W : List Int} {i k : Nat} : (cell2 L W i k).length ≤ 1 := by
  unfold cell2
  split
  · split <;> simp
  · simp
theorem cell2_at {L : List (Nat × Nat)} {W : List Int} {i k a b : Nat} (hi : W[i]? = some (a : Int)) (hk : W[k]? = some (b : Int)) : cell2 L W i k = if att L a b then [[(i : Int), (k : Int)]] else [] := by
  unfold cell2
  rw [hi, hk]; rfl
theorem flat_len {β : Type} {n b : Nat} {g : Nat → List β} (h : ∀ i, (g i).length ≤ b) : ((List.range n).flatMap g).length ≤ n * b := by
  induction n with
  | zero => simp
  | succ n ih =>
    rw [List.range_succ, List.flatMap_append, List.length_append, Nat.add_mul]
    have := h n
    simp only [List.flatMap_cons, List.flatMap_nil, List.append_nil, Nat.one_mul]
    omega
def atks (L : List (Nat × Nat)) (W : List Int) : List (List Int) := (List.range W.length).flatMap fun i => (List.range W.length).flatMap fun k => cell2 L W i k
theorem atks_len {L : List (Nat × Nat)} {W : List Int} : (atks L W).length ≤ W.length * (W.length * 1) := flat_len fun _ => flat_len fun _ => cell2_len
section
variable {c : Nat} {L : List (Nat × Nat)} (hc : c ≤ 10) (hL : ∀ e ∈ L, e.1 < c ∧ e.2 < c) (hl : L.length ≤ maxLen) {W : List Int} (hW : ∀ i, i < W.length → ∃ a : Nat, W[i]? = some (a : Int) ∧ a < c) (hWl : W.length ≤ 10)
theorem get_of {i : Nat} {a : Int} (h : W[i]? = some a) {β : Type} {k : Int → Option β} : idx W (i : Int) k = k a := by
  obtain ⟨h1, h2⟩ := List.getElem?_eq_some_iff.1 h
  rw [idx_nat h1, h2]
include hc hW hWl in
theorem sp_red2 {i : Nat} (hi : i < W.length) {acc : List (List Int)} (hacc : acc.length ≤ 1000) : F_spec_ReductOf_l2 W (i : Int) (gr c L) (W.length + 1) acc 0 = some (acc ++ (List.range W.length).flatMap fun k => cell2 L W i k) := by
  refine app_loop (n := W.length) (b := 1) (F := F_spec_ReductOf_l2 W (i : Int) (gr c L)) (fun k => cell2 L W i k) some 1000 (fun _ _ => cell2_len) (fun f acc => ?_) (fun f acc k hk ha => ?_) (by omega) hacc
  · rw [F_spec_ReductOf_l2.eq_2, dlt_f (by omega), cond_false]
  · obtain ⟨a, ea, ha'⟩ := hW i hi
    obtain ⟨b, eb, hb'⟩ := hW k hk
    rw [F_spec_ReductOf_l2.eq_2, dlt_t hk, cond_true, get_of ea, show (gr c L).fHits = tab c fun a => (msk 10 (att L a) : Int) from rfl, idx_tab ha', get_of eb, spInMask (by omega), Option.bind_some, W_succ10 hk (by omega), cell2_at ea eb]
    cases att L a b with
    | false => simp
    | true => rw [cond_true, app_ok (by simp; omega)]; simp
include hc hW hWl in
theorem sp_red1 : F_spec_ReductOf_l1 W (gr c L) (W.length + 1) [] 0 = some (⟨(W.length : Int), atks L W⟩, W, true) := by
  have := app_loop (n := W.length) (b := 10) (F := F_spec_ReductOf_l1 W (gr c L)) (fun i => (List.range W.length).flatMap fun k => cell2 L W i k) (fun acc => some ((⟨(W.length : Int), acc⟩ : DFrame), W, true)) 0
    (fun i _ => Nat.le_trans (flat_len (b := 1) fun _ => cell2_len) (by omega)) (fun f acc => ?_) (fun f acc i hi ha => ?_) (m := W.length + 1) (acc := []) (by omega) (Nat.le_refl _)
  · exact this
  · rw [F_spec_ReductOf_l1.eq_2, dlt_f (by omega), cond_false]
  · rw [F_spec_ReductOf_l1.eq_2, dlt_t hi, cond_true, sp_red2 hc hW hWl hi (by omega), Option.bind_some, W_succ10 hi (by omega)]
include hl hW hWl in
theorem im_red2 {i a : Nat} (ea : W[i]? = some (a : Int)) {acc : List (List Int)} (hacc : acc.length ≤ 1000) : F_impl_ReductOf_l2 W (frm c L) (a : Int) (i : Int) (W.length + 1) acc 0 = some (acc ++ (List.range W.length).flatMap fun k => cell2 L W i k) := by
  refine app_loop (n := W.length) (b := 1) (F := F_impl_ReductOf_l2 W (frm c L) (a : Int) (i : Int)) (fun k => cell2 L W i k) some 1000 (fun _ _ => cell2_len) (fun f acc => ?_) (fun f acc k hk ha => ?_) (by omega) hacc
  · rw [F_impl_ReductOf_l2.eq_2, dlt_f (by omega), cond_false]
  · obtain ⟨b, eb, hb'⟩ := hW k hk
    rw [F_impl_ReductOf_l2.eq_2, dlt_t hk, cond_true, get_of eb, imAttacks hl, Option.bind_some, W_succ10 hk (by omega), cell2_at ea eb]
    cases att L a b with
    | false => simp
    | true => rw [cond_true, app_ok (by simp; omega)]; simp
include hl hW hWl in
theorem im_red1 : F_impl_ReductOf_l1 W (frm c L) (W.length + 1) [] 0 = some (⟨(W.length : Int), atks L W⟩, W, true) := by
  have := app_loop (n := W.length) (b := 10) (F := F_impl_ReductOf_l1 W (frm c L)) (fun i => (List.range W.length).flatMap fun k => cell2 L W i k) (fun acc => some ((⟨(W.length : Int), acc⟩ : DFrame), W, true)) 0
    (fun i _ => Nat.le_trans (flat_len (b := 1) fun _ => cell2_len) (by omega)) (fun f acc => ?_) (fun f acc i hi ha => ?_) (m := W.length + 1) (acc := []) (by omega) (Nat.le_refl _)
  · exact this
  · rw [F_impl_ReductOf_l1.eq_2, dlt_f (by omega), cond_false]
  · obtain ⟨a, ea, _⟩ := hW i hi
    rw [F_impl_ReductOf_l1.eq_2, dlt_t hi, cond_true, get_of ea, im_red2 hl hW hWl ea (by omega), Option.bind_some, W_succ10 hi (by omega)]
end
theorem all_code {c : Nat} (hc : c ≤ 10) : IntKind.i64.wrap (ishl .i64 1 (c : Int) - 1) = (msk 10 (fun a => decide (a < c)) : Int) := by
  rw [shl64 (by omega)]
  have h : msk 10 (fun a => decide (a < c)) = 2 ^ c - 1 := by
    refine Nat.eq_of_testBit_eq fun i => ?_
    rw [msk_bit, Nat.testBit_two_pow_sub_one, ← Bool.decide_and, decide_eq_decide]
    omega
  have h2 : (2 : Nat) ^ c ≤ 2 ^ 10 := Nat.pow_le_pow_right (by decide) hc
  have h3 := Nat.two_pow_pos c
  rw [h, W_id (by omega) (by omega)]
  omega
theorem atks_cnt {L : List (Nat × Nat)} {W : List Int} (hW : W.length ≤ 10) : (atks L W).length + ((atks L W).map (fun e : List Int => e.length)).sum ≤ 1048576 := by
  have h1 : ∀ l : List (List Int), (∀ e ∈ l, e.length = 2) → (l.map (fun e : List Int => e.length)).sum = l.length * 2 := by
    intro l
    induction l with
    | nil => intro _; simp
    | cons a r ih => intro h; rw [List.map_cons, List.sum_cons, ih (fun e he => h e (List.mem_cons_of_mem _ he)), h a (List.mem_cons_self ..), List.length_cons, Nat.add_mul]; omega
  have h2 := atks_len (L := L) (W := W)
  have h3 : W.length * (W.length * 1) ≤ 10 * (10 * 1) := Nat.mul_le_mul hW (Nat.mul_le_mul hW (Nat.le_refl _))
  rw [h1 _ (fun e he => by
    unfold atks at he
    obtain ⟨i, -, he⟩ := List.mem_flatMap.1 he
    obtain ⟨k, -, he⟩ := List.mem_flatMap.1 he
    unfold cell2 at he
    split at he
    · split at he
      · rw [List.mem_singleton.1 he]; rfl
      · cases he
    · cases he)]
  omega
theorem eqReduct (f : DFrame) (l : List Int) (hs : smF f) (hl : l.length ≤ maxLen) : ∃ r, F_spec_ReductOf f l = some r ∧ F_impl_ReductOf f l = some r ∧ r.1.fAttacks.length + (r.1.fAttacks.map (fun e : List Int => e.length)).sum ≤ 1048576 ∧ r.2.1.length ≤ 1048576 := by
  unfold F_spec_ReductOf F_impl_ReductOf
  rw [spFits f l hs hl, imMaskOf f l hs hl, Option.bind_some]
  cases h : frameOk f && setOk l (IntKind.i64.wrap (f.fCount - 1)) with
  | false => exact ⟨_, rfl, rfl, by simp, by simp⟩
  | true =>
    rw [Bool.and_eq_true] at h
    obtain ⟨c, L, hc, rfl, hL, hLl⟩ := frame_nat hs h.1
    obtain ⟨N, rfl, hN⟩ := set_nat (by omega) h.2
    have hNl : N.length ≤ maxLen := by simpa using hl
    rw [cond_true, imMask hc hN hNl, Option.bind_some, spOf hc hL hLl, spSet hc hN hNl]
    unfold F_spec_l08Graph_all
    dsimp only [Option.bind_some]
    rw [spHit hc hL, imAttacked hc hL hLl, show (gr c L).fCount = (c : Int) from rfl, show (frm c L).fCount = (c : Int) from rfl, U_nat (by omega), shc_nat, shc_nat, all_code hc, Option.bind_some, Option.bind_some, Option.bind_some, m_or (by decide), m_diff (by decide), spList, imSetOf (by decide), Option.bind_some, Option.bind_some]
    generalize hp : (fun i => decide (i < c) && !(N.contains i || hitB L (fun a => N.contains a) i)) = p
    have hW : ∀ i, i < (lst 10 p).length → ∃ a : Nat, (lst 10 p)[i]? = some (a : Int) ∧ a < c := fun i hi => by
      obtain ⟨a, e, h1, h2⟩ := lst_get hi
      refine ⟨a, by rw [List.getElem?_eq_getElem hi, e], ?_⟩
      rw [← hp, Bool.and_eq_true, decide_eq_true_eq] at h2
      exact h2.1
    rw [sp_red1 hc hW lst_len, im_red1 hLl hW lst_len]
    exact ⟨_, rfl, rfl, atks_cnt lst_len, Nat.le_trans lst_len (by decide)⟩
end Go.FX
