/- The pure part: what the functions compute, in plain Lean, with no program in sight; no condition. -/
import Derived.Test.YtcginliajfemcaaAPure3
namespace Go.FX
open Go Go.GL Go.RowKit
/-! rounds -/
def posB (c : Nat) (o : Nat → Int) (a : Nat) : Bool := decide (a < c) && decide (o a > 0)
def negB (c : Nat) (o : Nat → Int) (a : Nat) : Bool := decide (a < c) && decide (o a < 0)
def freeB (L : List (Nat × Nat)) (s : Nat → Bool) (a : Nat) : Bool := !(List.range 10).any fun i => att L i a && !s i
def st1 (L : List (Nat × Nat)) (c : Nat) (k : Int) (o : Nat → Int) (a : Nat) : Int := if (o a == 0 && freeB L (negB c o) a) = true then k else o a
def st2 (L : List (Nat × Nat)) (c : Nat) (k : Int) (o : Nat → Int) (a : Nat) : Int := if (o a == 0 && hitB L (posB c o) a) = true then -k else o a
def upTo (i : Nat) (n o : Nat → Int) (a : Nat) : Int := if a < i then n a else o a
theorem upTo_set {c i : Nat} {n o : Nat → Int} : (tab c (upTo i n o)).set i (n i) = tab c (upTo (i + 1) n o) := by
  rw [set_tab]
  refine tab_congr fun a _ => ?_
  unfold upTo
  by_cases h : a = i
  · subst h; rw [if_pos rfl, if_pos (by omega)]
  · rw [if_neg h]
    by_cases h2 : a < i
    · rw [if_pos h2, if_pos (by omega)]
    · rw [if_neg h2, if_neg (by omega)]
theorem upTo_same {c i : Nat} {n o : Nat → Int} (h : n i = o i) : tab c (upTo (i + 1) n o) = tab c (upTo i n o) := by
  refine tab_congr fun a _ => ?_
  unfold upTo
  by_cases h2 : a < i
  · rw [if_pos h2, if_pos (by omega)]
  · by_cases h3 : a = i
    · subst h3; rw [if_pos (by omega), if_neg h2, h]
    · rw [if_neg h2, if_neg (by omega)]
theorem upTo_all {c : Nat} {n o : Nat → Int} : tab c (upTo c n o) = tab c n := tab_congr fun _ h => if_pos h
theorem upTo_zero {c : Nat} {n o : Nat → Int} : tab c (upTo 0 n o) = tab c o := tab_congr fun _ _ => if_neg (Nat.not_lt_zero _)
theorem upTo_at {i : Nat} {n o : Nat → Int} : upTo i n o i = o i := if_neg (Nat.lt_irrefl i)
/-- a mask while a table is turned from o to n -/
def grow (i : Nat) (p q : Nat → Bool) (a : Nat) : Bool := if a < i then q a else p a
theorem grow_one {i : Nat} {p q : Nat → Bool} (hi : i < 10) (h1 : p i = false) (h2 : q i = true) : ibits .or .i64 (msk 10 (grow i p q) : Int) (ishl .i64 1 (i : Int)) = (msk 10 (grow (i + 1) p q) : Int) := by
  rw [m_one (n := 10) (by decide) hi, m_or (by decide)]
  congr 1
  refine msk_congr fun a _ => ?_
  unfold grow
  by_cases h : a = i
  · subst h; rw [if_neg (by omega), if_pos (by omega), h1, h2]; simp
  · rw [beq_eq_false_iff_ne.2 h, Bool.or_false]
    by_cases h3 : a < i
    · rw [if_pos h3, if_pos (by omega)]
    · rw [if_neg h3, if_neg (by omega)]
theorem grow_same {i : Nat} {p q : Nat → Bool} (h : p i = q i) : msk 10 (grow (i + 1) p q) = msk 10 (grow i p q) := by
  refine msk_congr fun a _ => ?_
  unfold grow
  by_cases h2 : a < i
  · rw [if_pos h2, if_pos (by omega)]
  · by_cases h3 : a = i
    · subst h3; rw [if_pos (by omega), if_neg h2, h]
    · rw [if_neg h2, if_neg (by omega)]
theorem grow_zero {p q : Nat → Bool} : msk 10 (grow 0 p q) = msk 10 p := msk_congr fun _ _ => if_neg (Nat.not_lt_zero _)
theorem grow_all {c : Nat} {p q : Nat → Bool} (h : ∀ a, c ≤ a → p a = q a) : msk 10 (grow c p q) = msk 10 q := by
  refine msk_congr fun a _ => ?_
  unfold grow
  by_cases h2 : a < c
  · rw [if_pos h2]
  · rw [if_neg h2, h a (by omega)]
section
variable {c : Nat} {L : List (Nat × Nat)} (hc : c ≤ 10) (hL : ∀ e ∈ L, e.1 < c ∧ e.2 < c) (hl : L.length ≤ maxLen)
theorem pos_out {o : Nat → Int} {a : Nat} (h : c ≤ a) : posB c o a = false := by unfold posB; rw [decide_eq_false (by omega)]; rfl
theorem neg_out {o : Nat → Int} {a : Nat} (h : c ≤ a) : negB c o a = false := by unfold negB; rw [decide_eq_false (by omega)]; rfl
theorem st1_zero {k : Int} {o : Nat → Int} {a : Nat} (h : o a ≠ 0) : st1 L c k o a = o a := if_neg (by simp [h])
theorem st2_zero {k : Int} {o : Nat → Int} {a : Nat} (h : o a ≠ 0) : st2 L c k o a = o a := if_neg (by simp [h])
theorem neg_st1 {k : Int} {o : Nat → Int} {a : Nat} (hk : 0 < k) : negB c (st1 L c k o) a = negB c o a := by
  unfold negB
  congr 1
  unfold st1
  split
  · next h => rw [Bool.and_eq_true, beq_iff_eq] at h; rw [decide_eq_decide]; omega
  · rfl
include hc in
theorem sp2 {o : Nat → Int} {k : Int} (hk : 0 < k) : F_spec_l08Graph_rounds_l2 (gr c L) (msk 10 (negB c o) : Int) k (c + 2) (tab c o) (msk 10 (posB c o) : Int) 0 = some (tab c (st1 L c k o), (msk 10 (posB c (st1 L c k o)) : Int)) := by
  have e0 : (gr c L).fCount = (c : Int) := rfl
  have key := up (n := c) (P := fun i f => F_spec_l08Graph_rounds_l2 (gr c L) (msk 10 (negB c o) : Int) k f (tab c (upTo i (st1 L c k o) o)) (msk 10 (grow i (posB c o) (posB c (st1 L c k o))) : Int) (i : Int) = some (tab c (st1 L c k o), (msk 10 (posB c (st1 L c k o)) : Int))) (fun f => ?_) (fun i f hi ih => ?_) c 0 (c + 2) (by omega) (by omega)
  · rw [upTo_zero, grow_zero] at key; exact key
  · rw [F_spec_l08Graph_rounds_l2.eq_2, e0, dlt_f (by omega), cond_false, upTo_all, grow_all (fun a h => by rw [pos_out h, pos_out h])]
  · rw [F_spec_l08Graph_rounds_l2.eq_2, e0, dlt_t hi, cond_true, idx_tab hi, upTo_at, show (gr c L).fBy = tab c fun b => (msk 10 (fun a => att L a b) : Int) from rfl, idx_tab hi, W_succ10 hi (by omega), m_diff (by decide), m_none, idx_tab hi, U_nat (by omega), shc_nat, Int.toNat_natCast]
    rw [show (!(List.range 10).any fun j => att L j i && !negB c o j) = freeB L (negB c o) i from rfl]
    cases hz : o i == 0 with
    | false =>
      have hz' : o i ≠ 0 := by simpa using hz
      rw [cond_false, Option.bind_some, cond_false, ← ih, upTo_same (st1_zero hz'), grow_same (by unfold posB; rw [st1_zero hz'])]
    | true =>
      have hz' : o i = 0 := by simpa using hz
      cases hf : freeB L (negB c o) i with
      | false =>
        have e : st1 L c k o i = o i := if_neg (by rw [hf]; simp)
        rw [cond_true, Option.bind_some, cond_false, ← ih, upTo_same e, grow_same (by unfold posB; rw [e])]
      | true =>
        have e : st1 L c k o i = k := if_pos (by rw [hz, hf]; rfl)
        rw [cond_true, Option.bind_some, cond_true, ← ih, ← upTo_set, e, grow_one (by omega) (by unfold posB; rw [hz']; simp) (by unfold posB; rw [e, decide_eq_true hi, decide_eq_true hk]; rfl)]
include hc in
theorem sp3 {o : Nat → Int} {k : Int} (hk : 0 < k) (hk2 : k ≤ 1000) {x : Int} : F_spec_l08Graph_rounds_l3 (gr c L) (msk 10 (hitB L (posB c o)) : Int) k x (c + 2) (tab c o) (msk 10 (negB c o) : Int) 0 = some (tab c (st2 L c k o), x, (msk 10 (negB c (st2 L c k o)) : Int)) := by
  have e0 : (gr c L).fCount = (c : Int) := rfl
  have key := up (n := c) (P := fun i f => F_spec_l08Graph_rounds_l3 (gr c L) (msk 10 (hitB L (posB c o)) : Int) k x f (tab c (upTo i (st2 L c k o) o)) (msk 10 (grow i (negB c o) (negB c (st2 L c k o))) : Int) (i : Int) = some (tab c (st2 L c k o), x, (msk 10 (negB c (st2 L c k o)) : Int))) (fun f => ?_) (fun i f hi ih => ?_) c 0 (c + 2) (by omega) (by omega)
  · rw [upTo_zero, grow_zero] at key; exact key
  · rw [F_spec_l08Graph_rounds_l3.eq_2, e0, dlt_f (by omega), cond_false, upTo_all, grow_all (fun a h => by rw [neg_out h, neg_out h])]
  · rw [F_spec_l08Graph_rounds_l3.eq_2, e0, dlt_t hi, cond_true, idx_tab hi, upTo_at, spInMask (by omega), W_succ10 hi (by omega), idx_tab hi, U_nat (by omega), shc_nat, Int.toNat_natCast, W_id (n := 0 - k) (by omega) (by omega)]
    cases hz : o i == 0 with
    | false =>
      have hz' : o i ≠ 0 := by simpa using hz
      rw [cond_false, Option.bind_some, cond_false, ← ih, upTo_same (st2_zero hz'), grow_same (by unfold negB; rw [st2_zero hz'])]
    | true =>
      have hz' : o i = 0 := by simpa using hz
      cases hf : hitB L (posB c o) i with
      | false =>
        have e : st2 L c k o i = o i := if_neg (by rw [hf]; simp)
        rw [cond_true, Option.bind_some, Option.bind_some, cond_false, ← ih, upTo_same e, grow_same (by unfold negB; rw [e])]
      | true =>
        have e : st2 L c k o i = -k := if_pos (by rw [hz, hf]; rfl)
        rw [cond_true, Option.bind_some, Option.bind_some, cond_true, ← ih, ← upTo_set, e, grow_one (by omega) (by unfold negB; rw [hz']; simp) (by unfold negB; rw [e, decide_eq_true hi, decide_eq_true (by omega)]; rfl), Int.zero_sub]
def orb (L : List (Nat × Nat)) (c : Nat) : Nat → Nat → Int
  | 0, _ => 0
  | k + 1, a => st2 L c ((k + 1 : Nat) : Int) (st1 L c ((k + 1 : Nat) : Int) (orb L c k)) a
theorem orb_zero : (tab c fun _ => (0 : Int)) = tab c (orb L c 0) := rfl
theorem pos_st2 {k : Int} {o : Nat → Int} {a : Nat} (hk : 0 < k) : posB c (st2 L c k o) a = posB c o a := by
  unfold posB
  congr 1
  unfold st2
  split
  · next h => rw [Bool.and_eq_true, beq_iff_eq] at h; rw [decide_eq_decide]; omega
  · rfl
theorem msk_eta {n : Nat} {p q : Nat → Bool} (h : ∀ a, p a = q a) : msk n p = msk n q := msk_congr fun a _ => h a
include hc hL in
theorem spRound {k : Nat} (hk : k < 1000) {T : List Int × Int × Int → Option (List Int)} :
    Option.bind (Option.bind (F_spec_l08Graph_rounds_l2 (gr c L) (msk 10 (negB c (orb L c k)) : Int) ((k + 1 : Nat) : Int) (c + 2) (tab c (orb L c k)) (msk 10 (posB c (orb L c k)) : Int) 0) (fun (l27, x28) =>
      (F_spec_l08Graph_hit (gr c L) x28).bind fun x74 => F_spec_l08Graph_rounds_l3 (gr c L) x74 ((k + 1 : Nat) : Int) x28 (c + 2) l27 (msk 10 (negB c (orb L c k)) : Int) 0)) T =
    T (tab c (orb L c (k + 1)), (msk 10 (posB c (orb L c (k + 1))) : Int), (msk 10 (negB c (orb L c (k + 1))) : Int)) := by
  rw [sp2 hc (by omega), Option.bind_some]
  dsimp only
  rw [spHit hc hL, Option.bind_some, msk_eta (fun a => (neg_st1 (L := L) (c := c) (k := ((k + 1 : Nat) : Int)) (o := orb L c k) (a := a) (by omega)).symm), sp3 hc (by omega) (by omega), Option.bind_some]
  congr 2
  rw [msk_eta (fun a => (pos_st2 (L := L) (c := c) (k := ((k + 1 : Nat) : Int)) (o := st1 L c ((k + 1 : Nat) : Int) (orb L c k)) (a := a) (by omega)).symm)]
  rfl
include hc hL in
theorem spRounds : F_spec_l08Graph_rounds (gr c L) = some (tab c (orb L c c)) := by
  unfold F_spec_l08Graph_rounds
  have e0 : (gr c L).fCount = (c : Int) := rfl
  rw [e0, mk_ok (by omega), Int.toNat_natCast, rep_tab]
  have key := up (n := c) (P := fun i f => F_spec_l08Graph_rounds_l1 (gr c L) f (tab c (orb L c i)) (msk 10 (posB c (orb L c i)) : Int) (msk 10 (negB c (orb L c i)) : Int) ((i + 1 : Nat) : Int) = some (tab c (orb L c c))) (fun f => ?_) (fun i f hi ih => ?_) c 0 (Int.toNat ((c : Int) - 1) + 2) (by omega) (by omega)
  · have p0 : posB c (orb L c 0) = fun _ => false := by funext a; unfold posB orb; simp
    have n0 : negB c (orb L c 0) = fun _ => false := by funext a; unfold negB orb; simp
    rw [p0, n0, msk_zero] at key
    exact key
  · rw [F_spec_l08Graph_rounds_l1.eq_2, e0, decide_eq_false (by omega), cond_false]
  · rw [F_spec_l08Graph_rounds_l1.eq_2, e0, decide_eq_true (by omega), cond_true, show Int.toNat ((c : Int) - 0) + 2 = c + 2 by omega, spRound hc hL (by omega), W_succ10 (i := i + 1) (n := 12) (by omega) (by decide)]
    exact ih
/-! the program's rounds -/
theorem grow_ibit {i : Nat} {p q : Nat → Bool} (hi : i < 10) : (ibits .and .i64 (ishr .i64 (ibits .or .i64 (msk 10 p : Int) (msk 10 q : Int)) (i : Int)) 1 == 0) = !(p i || q i) := by
  rw [m_or (by decide), shr64 (by omega), show (1 : Int) = ((1 : Nat) : Int) from rfl, and64 (Nat.lt_of_le_of_lt (Nat.shiftRight_le _ _) (msk_lt63 (by decide))) (by decide)]
  have h : (msk 10 (fun a => p a || q a)).testBit i = (p i || q i) := by rw [msk_bit]; simp [hi]
  rw [← h]
  have e : msk 10 (fun a => p a || q a) >>> i &&& 1 = if (msk 10 (fun a => p a || q a)).testBit i then 1 else 0 := by
    rw [Nat.and_one_is_mod, Nat.testBit_eq_decide_div_mod_eq, Nat.shiftRight_eq_div_pow]
    have := Nat.mod_two_eq_zero_or_one (msk 10 (fun a => p a || q a) / 2 ^ i)
    rcases this with h | h <;> simp [h]
  rw [e]
  cases (msk 10 (fun a => p a || q a)).testBit i <;> rfl
include hc in
theorem im2 {o : Nat → Int} {k : Int} : F_impl_Frame_rounds_l2 (tab c fun b => GInt.mk (msk 10 (fun a => att L a b) : Int)) (msk 10 (posB c o) : Int) (msk 10 (negB c o) : Int) k (c + 1) (tab c o) 0 = some (tab c (st1 L c k o)) := by
  have key := up (n := c) (P := fun i f => F_impl_Frame_rounds_l2 (tab c fun b => GInt.mk (msk 10 (fun a => att L a b) : Int)) (msk 10 (posB c o) : Int) (msk 10 (negB c o) : Int) k f (tab c (upTo i (st1 L c k o) o)) (i : Int) = some (tab c (st1 L c k o))) (fun f => ?_) (fun i f hi ih => ?_) c 0 (c + 1) (by omega) (by omega)
  · rw [upTo_zero] at key; exact key
  · rw [F_impl_Frame_rounds_l2.eq_2, tab_len, dlt_f (by omega), cond_false, upTo_all]
  · rw [F_impl_Frame_rounds_l2.eq_2, tab_len, dlt_t hi, cond_true, idx_tab hi, shc_nat, grow_ibit (by omega), W_succ10 hi (by omega), m_diff (by decide), m_none, idx_tab hi, Int.toNat_natCast]
    rw [show (!(List.range 10).any fun j => att L j i && !negB c o j) = freeB L (negB c o) i from rfl]
    have hz : (!(posB c o i || negB c o i)) = (o i == 0) := by
      unfold posB negB
      rw [decide_eq_true hi, Bool.eq_iff_iff]
      simp
      omega
    rw [hz]
    cases hz : o i == 0 with
    | false =>
      have hz' : o i ≠ 0 := by simpa using hz
      rw [cond_false, Option.bind_some, cond_false, ← ih, upTo_same (st1_zero hz')]
    | true =>
      cases hf : freeB L (negB c o) i with
      | false =>
        have e : st1 L c k o i = o i := if_neg (by rw [hf]; simp)
        rw [cond_true, Option.bind_some, cond_false, ← ih, upTo_same e]
      | true =>
        have e : st1 L c k o i = k := if_pos (by rw [hz, hf]; rfl)
        rw [cond_true, Option.bind_some, cond_true, ← ih, ← upTo_set, e]
include hc in
theorem im3 {o p : Nat → Int} (h : ∀ a, a < c → p a > 0 → o a > 0) : F_impl_Frame_rounds_l3 (tab c o) ((tab c o).length + 1) (msk 10 (posB c p) : Int) 0 = some (msk 10 (posB c o) : Int) := by
  rw [tab_len]
  have key := up (n := c) (P := fun i f => F_impl_Frame_rounds_l3 (tab c o) f (msk 10 (grow i (posB c p) (posB c o)) : Int) (i : Int) = some (msk 10 (posB c o) : Int)) (fun f => ?_) (fun i f hi ih => ?_) c 0 (c + 1) (by omega) (by omega)
  · rw [grow_zero] at key; exact key
  · rw [F_impl_Frame_rounds_l3.eq_2, tab_len, dlt_f (by omega), cond_false, grow_all (fun a h => by rw [pos_out h, pos_out h])]
  · rw [F_impl_Frame_rounds_l3.eq_2, tab_len, dlt_t hi, cond_true, idx_tab hi, shc_nat, W_succ10 hi (by omega), ← ih]
    by_cases hp : o i > 0
    · rw [decide_eq_true hp, cond_true]
      by_cases hq : p i > 0
      · rw [m_one (n := 10) (by decide) (by omega), m_or (by decide)]
        congr 2
        refine msk_congr fun a _ => ?_
        unfold grow posB
        by_cases e : a = i
        · subst e
          rw [if_neg (by omega), if_pos (by omega), decide_eq_true hi, decide_eq_true hp, decide_eq_true hq]; rfl
        · rw [beq_eq_false_iff_ne.2 e, Bool.or_false]
          by_cases h3 : a < i
          · rw [if_pos h3, if_pos (by omega)]
          · rw [if_neg h3, if_neg (by omega)]
      · rw [grow_one (by omega) (by unfold posB; rw [decide_eq_false hq, Bool.and_false]) (by unfold posB; rw [decide_eq_true hi, decide_eq_true hp]; rfl)]
    · rw [decide_eq_false hp, cond_false, grow_same (by unfold posB; rw [decide_eq_false hp, decide_eq_false (fun hq => hp (h i hi hq))])]
theorem hit_eq0 {s : Nat → Bool} {i : Nat} (hc : c ≤ 10) (hL : ∀ e ∈ L, e.1 < c ∧ e.2 < c) : (ibits .and .i64 (msk 10 (fun a => att L a i) : Int) (msk 10 s : Int) != 0) = hitB L s i := by
  rw [m_and (by decide), bne, m_none, Bool.not_not, Bool.eq_iff_iff]
  simp only [hitB, att, List.any_eq_true, Bool.and_eq_true, List.mem_range, beq_iff_eq]
  constructor
  · rintro ⟨a, _, ⟨e, he, rfl, h2⟩, h1⟩; exact ⟨e, he, h1, h2⟩
  · rintro ⟨e, he, h1, h2⟩; exact ⟨e.1, by have := (hL e he).1; omega, ⟨e, he, rfl, h2⟩, h1⟩
include hc hL in
theorem im4 {o : Nat → Int} {k : Int} (hk : 0 < k) (hk2 : k ≤ 1000) : F_impl_Frame_rounds_l4 (tab c o) (msk 10 (posB c o) : Int) (msk 10 (negB c o) : Int) (tab c fun b => GInt.mk (msk 10 (fun a => att L a b) : Int)) k ((tab c o).length + 1) (tab c o) 0 = some (tab c (st2 L c k o)) := by
  rw [tab_len]
  have key := up (n := c) (P := fun i f => F_impl_Frame_rounds_l4 (tab c o) (msk 10 (posB c o) : Int) (msk 10 (negB c o) : Int) (tab c fun b => GInt.mk (msk 10 (fun a => att L a b) : Int)) k f (tab c (upTo i (st2 L c k o) o)) (i : Int) = some (tab c (st2 L c k o))) (fun f => ?_) (fun i f hi ih => ?_) c 0 (c + 1) (by omega) (by omega)
  · rw [upTo_zero] at key; exact key
  · rw [F_impl_Frame_rounds_l4.eq_2, tab_len, dlt_f (by omega), cond_false, upTo_all]
  · rw [F_impl_Frame_rounds_l4.eq_2, tab_len, dlt_t hi, cond_true, shc_nat, grow_ibit (by omega), W_succ10 hi (by omega), idx_tab hi, hit_eq0 hc hL, idx_tab hi, Int.toNat_natCast, W_id (n := 0 - k) (by omega) (by omega), Int.zero_sub]
    have hz : (!(posB c o i || negB c o i)) = (o i == 0) := by
      unfold posB negB
      rw [decide_eq_true hi, Bool.eq_iff_iff]
      simp
      omega
    rw [hz]
    cases hz : o i == 0 with
    | false =>
      have hz' : o i ≠ 0 := by simpa using hz
      rw [cond_false, Option.bind_some, cond_false, ← ih, upTo_same (st2_zero hz')]
    | true =>
      cases hf : hitB L (posB c o) i with
      | false =>
        have e : st2 L c k o i = o i := if_neg (by rw [hf]; simp)
        rw [cond_true, Option.bind_some, cond_false, ← ih, upTo_same e]
      | true =>
        have e : st2 L c k o i = -k := if_pos (by rw [hz, hf]; rfl)
        rw [cond_true, Option.bind_some, cond_true, ← ih, ← upTo_set, e]
include hc in
theorem im5 {o p : Nat → Int} {x y : Int} (h : ∀ a, a < c → p a < 0 → o a < 0) : F_impl_Frame_rounds_l5 (tab c o) x y (msk 10 (negB c p) : Int) ((tab c o).length + 1) (msk 10 (negB c p) : Int) 0 =
    bif (ibits .or .i64 x (msk 10 (negB c o) : Int)) == (ibits .or .i64 y (msk 10 (negB c p) : Int)) then some (Sum.inl (tab c o)) else some (Sum.inr (tab c o, x, (msk 10 (negB c o) : Int))) := by
  rw [tab_len]
  have key := up (n := c) (P := fun i f => F_impl_Frame_rounds_l5 (tab c o) x y (msk 10 (negB c p) : Int) f (msk 10 (grow i (negB c p) (negB c o)) : Int) (i : Int) = bif (ibits .or .i64 x (msk 10 (negB c o) : Int)) == (ibits .or .i64 y (msk 10 (negB c p) : Int)) then some (Sum.inl (tab c o)) else some (Sum.inr (tab c o, x, (msk 10 (negB c o) : Int)))) (fun f => ?_) (fun i f hi ih => ?_) c 0 (c + 1) (by omega) (by omega)
  · rw [grow_zero] at key; exact key
  · rw [F_impl_Frame_rounds_l5.eq_2, tab_len, dlt_f (by omega), cond_false, grow_all (fun a h => by rw [neg_out h, neg_out h])]
  · rw [F_impl_Frame_rounds_l5.eq_2, tab_len, dlt_t hi, cond_true, idx_tab hi, shc_nat, W_succ10 hi (by omega), ← ih]
    by_cases hp : o i < 0
    · rw [decide_eq_true hp, cond_true]
      by_cases hq : p i < 0
      · rw [m_one (n := 10) (by decide) (by omega), m_or (by decide)]
        congr 2
        refine msk_congr fun a _ => ?_
        unfold grow negB
        by_cases e : a = i
        · subst e
          rw [if_neg (by omega), if_pos (by omega), decide_eq_true hi, decide_eq_true hp, decide_eq_true hq]; rfl
        · rw [beq_eq_false_iff_ne.2 e, Bool.or_false]
          by_cases h3 : a < i
          · rw [if_pos h3, if_pos (by omega)]
          · rw [if_neg h3, if_neg (by omega)]
      · rw [grow_one (by omega) (by unfold negB; rw [decide_eq_false hq, Bool.and_false]) (by unfold negB; rw [decide_eq_true hi, decide_eq_true hp]; rfl)]
    · rw [decide_eq_false hp, cond_false, grow_same (by unfold negB; rw [decide_eq_false hp, decide_eq_false (fun hq => hp (h i hi hq))])]
/-- how many are nought -/
def zer (c : Nat) (o : Nat → Int) : Nat := (tab c fun a => if o a = 0 then 1 else 0).sum
theorem sum_tab_le {c : Nat} {f g : Nat → Nat} (h : ∀ a, a < c → f a ≤ g a) : (tab c f).sum ≤ (tab c g).sum ∧ ((∃ a, a < c ∧ f a < g a) → (tab c f).sum < (tab c g).sum) := by
  induction c with
  | zero => exact ⟨by simp [tab], fun ⟨a, h, _⟩ => absurd h (Nat.not_lt_zero a)⟩
  | succ c ih =>
    obtain ⟨h1, h2⟩ := ih (fun a ha => h a (by omega))
    have e : ∀ f : Nat → Nat, (tab (c + 1) f).sum = (tab c f).sum + f c := fun f => by unfold tab; rw [List.range_succ, List.map_append, List.sum_append]; simp
    rw [e, e]
    have h3 := h c (by omega)
    refine ⟨by omega, fun ⟨a, ha, hl⟩ => ?_⟩
    by_cases e : a = c
    · subst e; omega
    · have := h2 ⟨a, by omega, hl⟩; omega
theorem zer_le {o : Nat → Int} : zer c o ≤ c := by
  have := (sum_tab_le (c := c) (f := fun a => if o a = 0 then 1 else 0) (g := fun _ => 1) (fun a _ => by split <;> omega)).1
  have e : (tab c fun _ => (1 : Nat)).sum = c := by unfold tab; rw [wsum_const]; simp
  unfold zer
  omega
def rnd (L : List (Nat × Nat)) (c : Nat) (k : Int) (o : Nat → Int) : Nat → Int := st2 L c k (st1 L c k o)
theorem rnd_nz {k : Int} {o : Nat → Int} {a : Nat} (h : o a ≠ 0) : rnd L c k o a = o a := by
  unfold rnd
  have := st1_zero (L := L) (c := c) (k := k) h
  rw [st2_zero (by rw [this]; exact h), this]
theorem rnd_zer {k : Int} {o : Nat → Int} (h : ∃ a, a < c ∧ o a = 0 ∧ rnd L c k o a ≠ 0) : zer c (rnd L c k o) < zer c o := by
  obtain ⟨a, h1, h2, h3⟩ := h
  refine (sum_tab_le fun a _ => ?_).2 ⟨a, h1, by rw [if_neg h3, if_pos h2]; decide⟩
  by_cases e : o a = 0
  · rw [if_pos e]; split <;> omega
  · rw [rnd_nz e]; exact Nat.le_refl _
theorem bits_eq {p q : Nat → Bool} {o n : Nat → Int} (hp : ∀ a, p a = (posB c n a || negB c n a)) (hq : ∀ a, q a = (posB c o a || negB c o a)) (hc : c ≤ 10) : (msk 10 p = msk 10 q) ↔ ∀ a, a < c → (n a = 0 ↔ o a = 0) := by
  constructor
  · intro h a ha
    have := msk_inj h a (by omega)
    rw [hp, hq] at this
    unfold posB negB at this
    rw [decide_eq_true ha, Bool.eq_iff_iff] at this
    simp at this
    omega
  · intro h
    refine msk_congr fun a _ => ?_
    rw [hp, hq]
    by_cases ha : a < c
    · have := h a ha
      unfold posB negB
      rw [decide_eq_true ha, Bool.eq_iff_iff]
      simp
      omega
    · rw [pos_out (by omega), pos_out (by omega), neg_out (by omega), neg_out (by omega)]
theorem st1_congr {k : Int} {o p : Nat → Int} (h : ∀ a, a < c → o a = p a) {a : Nat} (ha : a < c) : st1 L c k o a = st1 L c k p a := by
  unfold st1 freeB
  rw [h a ha, show negB c o = negB c p from funext fun i => by unfold negB; by_cases hi : i < c; rw [h i hi]; rw [decide_eq_false hi]; simp]
theorem st2_congr {k : Int} {o p : Nat → Int} (h : ∀ a, a < c → o a = p a) {a : Nat} (ha : a < c) : st2 L c k o a = st2 L c k p a := by
  unfold st2 hitB
  rw [h a ha, show posB c o = posB c p from funext fun i => by unfold posB; by_cases hi : i < c; rw [h i hi]; rw [decide_eq_false hi]; simp]
theorem rnd_congr {k : Int} {o p : Nat → Int} (h : ∀ a, a < c → o a = p a) {a : Nat} (ha : a < c) : rnd L c k o a = rnd L c k p a := st2_congr (fun _ ha => st1_congr h ha) ha
/-- where a round changes nothing, no round does -/
theorem rnd_fix {k j : Int} (hk : k ≠ 0) {o : Nat → Int} (h : ∀ a, a < c → rnd L c k o a = o a) {a : Nat} (ha : a < c) : rnd L c j o a = o a := by
  have s1 : ∀ a, a < c → st1 L c k o a = o a := fun a ha => by
    by_cases e : st1 L c k o a = o a
    · exact e
    · have e2 : st1 L c k o a = k := by unfold st1 at e ⊢; split at e; exact if_pos (by assumption); exact absurd rfl e
      have e3 := h a ha
      unfold rnd at e3
      rw [st2_zero (by rw [e2]; exact hk)] at e3
      exact absurd e3 e
  have s2 : ∀ a, a < c → st1 L c j o a = o a := fun a ha => by
    have := s1 a ha
    unfold st1 at this ⊢
    split
    · next hh => rw [if_pos hh] at this; rw [Bool.and_eq_true, beq_iff_eq] at hh; omega
    · rfl
  have t1 : st2 L c k o a = o a := by rw [← st2_congr (p := o) s1 ha]; exact h a ha
  show st2 L c j (st1 L c j o) a = o a
  rw [st2_congr s2 ha]
  unfold st2 at t1 ⊢
  split
  · next hh => rw [if_pos hh] at t1; rw [Bool.and_eq_true, beq_iff_eq] at hh; omega
  · rfl
theorem orb_fix {k : Nat} (h : ∀ a, a < c → orb L c (k + 1) a = orb L c k a) : ∀ j, k ≤ j → ∀ a, a < c → orb L c j a = orb L c k a := by
  intro j
  induction j with
  | zero => intro hj a _; obtain rfl : k = 0 := by omega
            rfl
  | succ j ih =>
    intro hj a ha
    by_cases e : k = j + 1
    · rw [e]
    · have h2 := ih (by omega)
      show rnd L c ((j + 1 : Nat) : Int) (orb L c j) a = _
      rw [rnd_congr h2 ha]
      exact rnd_fix (k := ((k + 1 : Nat) : Int)) (by omega) h ha
include hc hL in
theorem imRound {k : Nat} (hk : k < 1000) :
    Option.bind (F_impl_Frame_rounds_l2 (tab c fun b => GInt.mk (msk 10 (fun a => att L a b) : Int)) (msk 10 (posB c (orb L c k)) : Int) (msk 10 (negB c (orb L c k)) : Int) ((k + 1 : Nat) : Int) ((tab c fun b => GInt.mk (msk 10 (fun a => att L a b) : Int)).length + 1) (tab c (orb L c k)) 0) (fun l73 =>
      Option.bind (F_impl_Frame_rounds_l3 l73 (List.length l73 + 1) (msk 10 (posB c (orb L c k)) : Int) 0) (fun x120 =>
      Option.bind (F_impl_Frame_rounds_l4 l73 x120 (msk 10 (negB c (orb L c k)) : Int) (tab c fun b => GInt.mk (msk 10 (fun a => att L a b) : Int)) ((k + 1 : Nat) : Int) (List.length l73 + 1) l73 0) (fun l149 =>
      F_impl_Frame_rounds_l5 l149 x120 (msk 10 (posB c (orb L c k)) : Int) (msk 10 (negB c (orb L c k)) : Int) (List.length l149 + 1) (msk 10 (negB c (orb L c k)) : Int) 0))) =
    bif decide (msk 10 (fun a => posB c (orb L c (k + 1)) a || negB c (orb L c (k + 1)) a) = msk 10 (fun a => posB c (orb L c k) a || negB c (orb L c k) a)) then some (Sum.inl (tab c (orb L c (k + 1))))
      else some (Sum.inr (tab c (orb L c (k + 1)), (msk 10 (posB c (orb L c (k + 1))) : Int), (msk 10 (negB c (orb L c (k + 1))) : Int))) := by
  have q1 : ∀ a, posB c (st1 L c ((k + 1 : Nat) : Int) (orb L c k)) a = posB c (orb L c (k + 1)) a := fun a => (pos_st2 (by omega)).symm
  rw [tab_len, im2 hc, Option.bind_some, im3 hc (fun a _ hp => by rw [st1_zero (by omega)]; exact hp), Option.bind_some, msk_eta (fun a => (neg_st1 (L := L) (c := c) (k := ((k + 1 : Nat) : Int)) (o := orb L c k) (a := a) (by omega)).symm), im4 hc hL (by omega) (by omega), Option.bind_some]
  rw [show st2 L c ((k + 1 : Nat) : Int) (st1 L c ((k + 1 : Nat) : Int) (orb L c k)) = orb L c (k + 1) from rfl, im5 hc (fun a _ hp => by
    show st2 L c ((k + 1 : Nat) : Int) (st1 L c ((k + 1 : Nat) : Int) (orb L c k)) a < 0
    rw [st2_zero (by omega)]; exact hp)]
  have q2 : ∀ a, negB c (st1 L c ((k + 1 : Nat) : Int) (orb L c k)) a = negB c (orb L c k) a := fun a => neg_st1 (by omega)
  rw [msk_eta q1, m_or (by decide), m_or (by decide), beq_dec]
  simp only [q2]
  congr 1
  rw [decide_eq_decide]; omega
include hc hL in
theorem imRounds_l1 : ∀ m k f, zer c (orb L c k) ≤ m → k + zer c (orb L c k) ≤ c → m < f → F_impl_Frame_rounds_l1 (tab c fun b => GInt.mk (msk 10 (fun a => att L a b) : Int)) f (tab c (orb L c k)) (msk 10 (posB c (orb L c k)) : Int) (msk 10 (negB c (orb L c k)) : Int) ((k + 1 : Nat) : Int) = some (tab c (orb L c c)) := by
  intro m
  induction m with
  | zero =>
    intro k f hz hk hf
    obtain ⟨f, rfl⟩ : ∃ n, f = n + 1 := ⟨f - 1, by omega⟩
    rw [F_impl_Frame_rounds_l1.eq_2, imRound hc hL (by omega)]
    have hno : ∀ a, a < c → orb L c (k + 1) a = orb L c k a := fun a ha => by
      by_cases e : orb L c k a = 0
      · by_cases e2 : orb L c (k + 1) a = 0
        · rw [e, e2]
        · have := rnd_zer (L := L) (k := ((k + 1 : Nat) : Int)) ⟨a, ha, e, e2⟩; omega
      · exact rnd_nz e
    rw [decide_eq_true ((bits_eq (fun _ => rfl) (fun _ => rfl) hc).2 (fun a ha => by rw [hno a ha])), cond_true, Option.bind_some]
    show some (tab c (orb L c (k + 1))) = _
    rw [tab_congr (fun a ha => (hno a ha).trans (orb_fix hno c (by omega) a ha).symm)]
  | succ m ih =>
    intro k f hz hk hf
    obtain ⟨f, rfl⟩ : ∃ n, f = n + 1 := ⟨f - 1, by omega⟩
    rw [F_impl_Frame_rounds_l1.eq_2, imRound hc hL (by omega)]
    by_cases hno : ∀ a, a < c → orb L c (k + 1) a = orb L c k a
    · rw [decide_eq_true ((bits_eq (fun _ => rfl) (fun _ => rfl) hc).2 (fun a ha => by rw [hno a ha])), cond_true, Option.bind_some]
      show some (tab c (orb L c (k + 1))) = _
      rw [tab_congr (fun a ha => (hno a ha).trans (orb_fix hno c (by omega) a ha).symm)]
    · have hex : ∃ a, a < c ∧ orb L c k a = 0 ∧ orb L c (k + 1) a ≠ 0 := by
        refine Classical.byContradiction fun hn => hno fun a ha => ?_
        by_cases e : orb L c k a = 0
        · by_cases e2 : orb L c (k + 1) a = 0
          · rw [e, e2]
          · exact absurd ⟨a, ha, e, e2⟩ hn
        · exact rnd_nz e
      have hlt : zer c (orb L c (k + 1)) < zer c (orb L c k) := rnd_zer hex
      rw [decide_eq_false (fun h => by
        obtain ⟨a, ha, e1, e2⟩ := hex
        exact e2 (((bits_eq (fun _ => rfl) (fun _ => rfl) hc).1 h a ha).2 e1)), cond_false, Option.bind_some]
      show F_impl_Frame_rounds_l1 _ f (tab c (orb L c (k + 1))) _ _ _ = _
      rw [W_succ10 (i := k + 1) (n := 12) (by omega) (by decide)]
      exact ih (k + 1) f (by omega) (by omega) (by omega)
include hc hL hl in
theorem imRounds : F_impl_Frame_rounds (frm c L) = some (tab c (orb L c c)) := by
  unfold F_impl_Frame_rounds
  have e0 : (frm c L).fCount = (c : Int) := rfl
  rw [e0, mk_ok (by omega), Int.toNat_natCast, rep_tab, imAttackers hc hL hl, Option.bind_some, Option.bind_some]
  have key := imRounds_l1 hc hL (zer c (orb L c 0)) 0 1000 (Nat.le_refl _) (by have := zer_le (c := c) (o := orb L c 0); omega) (by have := zer_le (c := c) (o := orb L c 0); omega)
  have p0 : posB c (orb L c 0) = fun _ => false := by funext a; unfold posB orb; simp
  have n0 : negB c (orb L c 0) = fun _ => false := by funext a; unfold negB orb; simp
  rw [p0, n0, msk_zero] at key
  exact key
end
theorem eqRounds (f : DFrame) (hs : smF f) : ∃ r, F_spec_RoundsOf f = some r ∧ F_impl_RoundsOf f = some r ∧ r.1.length ≤ 1048576 := by
  unfold F_spec_RoundsOf F_impl_RoundsOf
  rw [spFrame f hs, imFrame f hs]
  dsimp only [Option.bind_some]
  cases h1 : frameOk f with
  | false => exact ⟨([], false), rfl, rfl, by simp⟩
  | true =>
    obtain ⟨c, L, hc, rfl, hL, hLl⟩ := frame_nat hs h1
    rw [spOf hc hL hLl, imRounds hc hL hLl, Option.bind_some, spRounds hc hL]
    exact ⟨_, rfl, rfl, by rw [tab_len]; omega⟩
section
variable {c : Nat} {L : List (Nat × Nat)} (hc : c ≤ 10) (hL : ∀ e ∈ L, e.1 < c ∧ e.2 < c) (hl : L.length ≤ maxLen)
theorem gz {o : Nat → Int} : msk 10 (grow 0 (fun _ => false) (posB c o)) = 0 := grow_zero.trans msk_zero
include hc hL in
theorem spGrounded : F_spec_l08Graph_grounded (gr c L) = some (msk 10 (posB c (orb L c c)) : Int) := by
  unfold F_spec_l08Graph_grounded
  have e0 : (gr c L).fCount = (c : Int) := rfl
  rw [spRounds hc hL, Option.bind_some, e0, show Int.toNat ((c : Int) - 0) + 2 = c + 2 by omega]
  have key := up (n := c) (P := fun i f => F_spec_l08Graph_grounded_l1 (gr c L) (tab c (orb L c c)) f (msk 10 (grow i (fun _ => false) (posB c (orb L c c))) : Int) (i : Int) = some (msk 10 (posB c (orb L c c)) : Int)) (fun f => ?_) (fun i f hi ih => ?_) c 0 (c + 2) (by omega) (by omega)
  · rw [gz] at key; exact key
  · rw [F_spec_l08Graph_grounded_l1.eq_2, e0, dlt_f (by omega), cond_false, grow_all (fun a h => (pos_out h).symm)]
  · rw [F_spec_l08Graph_grounded_l1.eq_2, e0, dlt_t hi, cond_true, idx_tab hi, U_nat (by omega), shc_nat, W_succ10 hi (by omega), ← ih]
    by_cases hp : orb L c c i > 0
    · rw [decide_eq_true hp, cond_true, grow_one (by omega) rfl (by unfold posB; rw [decide_eq_true hi, decide_eq_true hp]; rfl)]
    · rw [decide_eq_false hp, cond_false, grow_same (by unfold posB; rw [decide_eq_false hp, Bool.and_false])]
include hc hL hl in
theorem imGrounded : F_impl_Frame_grounded (frm c L) = some (msk 10 (posB c (orb L c c)) : Int) := by
  unfold F_impl_Frame_grounded
  rw [imRounds hc hL hl, Option.bind_some, tab_len]
  have key := up (n := c) (P := fun i f => F_impl_Frame_grounded_l1 (tab c (orb L c c)) f (msk 10 (grow i (fun _ => false) (posB c (orb L c c))) : Int) (i : Int) = some (msk 10 (posB c (orb L c c)) : Int)) (fun f => ?_) (fun i f hi ih => ?_) c 0 (c + 1) (by omega) (by omega)
  · rw [gz] at key; exact key
  · rw [F_impl_Frame_grounded_l1.eq_2, tab_len, dlt_f (by omega), cond_false, grow_all (fun a h => (pos_out h).symm)]
  · rw [F_impl_Frame_grounded_l1.eq_2, tab_len, dlt_t hi, cond_true, idx_tab hi, shc_nat, W_succ10 hi (by omega), ← ih]
    by_cases hp : orb L c c i > 0
    · rw [decide_eq_true hp, cond_true, grow_one (by omega) rfl (by unfold posB; rw [decide_eq_true hi, decide_eq_true hp]; rfl)]
    · rw [decide_eq_false hp, cond_false, grow_same (by unfold posB; rw [decide_eq_false hp, Bool.and_false])]
end
theorem eqGrounded (f : DFrame) (hs : smF f) : ∃ r, F_spec_GroundedSet f = some r ∧ F_impl_GroundedSet f = some r ∧ r.1.length ≤ 1048576 := by
  unfold F_spec_GroundedSet F_impl_GroundedSet
  rw [spFrame f hs, imFrame f hs]
  dsimp only [Option.bind_some]
  cases h1 : frameOk f with
  | false => exact ⟨([], false), rfl, rfl, by simp⟩
  | true =>
    obtain ⟨c, L, hc, rfl, hL, hLl⟩ := frame_nat hs h1
    rw [spOf hc hL hLl, imGrounded hc hL hLl, Option.bind_some, Option.bind_some, spGrounded hc hL, Option.bind_some, spList, imSetOf (by decide)]
    exact ⟨_, rfl, rfl, Nat.le_trans lst_len (by decide)⟩
end Go.FX
