/- The pure part: what the functions compute, in plain Lean, with no program in sight; no condition. -/
import Derived.Test.YtnjfgdadnbekpaaDoorTvPure5
namespace Go.FX
open Go Go.GL Go.RowKit
/-! lines of a text: those that end, and what is left -/
def spl (cur : Bytes) : Bytes → List Bytes × Bytes
  | [] => ([], cur)
  | c :: t => if c.toNat = 10 then (cur :: (spl [] t).1, (spl [] t).2) else spl (cur ++ [c]) t
theorem u8_10 {c : UInt8} : c.toNat = 10 ↔ c = 10 := by
  constructor
  · intro h; exact UInt8.toNat.inj h
  · rintro rfl; rfl
theorem spl_at : ∀ (t cur : Bytes), (t.count 10 = 0 ∧ spl cur t = ([], cur ++ t) ∧ Lib.indexByte t 10 = -1) ∨
    ∃ m, m < t.length ∧ Lib.indexByte t 10 = (m : Int) ∧ spl cur t = ((cur ++ t.take m) :: (spl [] (t.drop (m + 1))).1, (spl [] (t.drop (m + 1))).2) ∧ t.count 10 = (t.drop (m + 1)).count 10 + 1 := by
  intro t
  induction t with
  | nil => intro cur; exact .inl ⟨rfl, by simp [spl], rfl⟩
  | cons c t ih =>
    intro cur
    by_cases hc : c = 10
    · subst hc
      refine .inr ⟨0, by simp, by unfold Lib.indexByte; rfl, ?_, ?_⟩
      · rw [spl, if_pos (show UInt8.toNat 10 = 10 from rfl)]; simp
      · simp
    · have hn : ¬ c.toNat = 10 := fun h => hc (u8_10.1 h)
      have hb : (c == 10) = false := beq_eq_false_iff_ne.2 hc
      rcases ih (cur ++ [c]) with ⟨h1, h2, h3⟩ | ⟨m, h1, h2, h3, h4⟩
      · refine .inl ⟨?_, ?_, ?_⟩
        · rw [List.count_cons, h1, hb]; rfl
        · rw [spl, if_neg hn, h2]; simp
        · unfold Lib.indexByte; rw [hb, h3]; rfl
      · refine .inr ⟨m + 1, by simp; omega, ?_, ?_, ?_⟩
        · unfold Lib.indexByte
          rw [hb, h2]
          rw [if_neg (by decide), if_neg (by rw [beq_iff_eq]; omega)]
          omega
        · rw [spl, if_neg hn, h3]; simp
        · rw [List.count_cons, hb, h4]; rfl
theorem spl_count : ∀ (t cur : Bytes), (spl cur t).1.length = t.count 10 := by
  intro t
  induction t with
  | nil => intro cur; rfl
  | cons c t ih =>
    intro cur
    rw [spl, List.count_cons]
    by_cases hc : c.toNat = 10
    · rw [if_pos hc, List.length_cons, ih, u8_10.1 hc]; rfl
    · rw [if_neg hc, ih, show (c == 10) = false from beq_eq_false_iff_ne.2 fun h => hc (u8_10.2 h)]; rfl
theorem imIndex (s : Bytes) (c : UInt8) : F_strings_Index s [c] = some (Lib.indexByte s c) := rfl
theorem rep_set {α : Type} (l : List α) (n : Nat) (z x : α) {i : Nat} (h : l.length = i) : (l ++ List.replicate (n + 1) z).set i x = (l ++ [x]) ++ List.replicate n z := by
  subst h
  rw [List.set_append_right _ _ (Nat.le_refl _), Nat.sub_self, List.replicate_succ, List.set_cons_zero, List.append_assoc]; rfl
theorem split_l1 (T : Bytes) (X : Int) (N : Nat) (hN : N ≤ 1000000) (hx : IntKind.i64.wrap ((imin X (IntKind.i64.wrap ((List.length T : Int) + 1))) - 1) = (N : Int)) : ∀ k i f, i + k = N → k < f → ∀ (s : Bytes) (done : List Bytes), s.length ≤ 1000000 → done.length = i → s.count 10 = k →
    F_strings_genSplit_l1 X T [10] 0 f s (done ++ List.replicate (k + 1) []) (i : Int) = some ((spl [] s).2, done ++ (spl [] s).1 ++ [[]], (N : Int)) := by
  intro k
  induction k with
  | zero =>
    intro i f hi hf s done hs hd hc
    obtain ⟨f, rfl⟩ : ∃ g, f = g + 1 := ⟨f - 1, by omega⟩
    rw [F_strings_genSplit_l1.eq_2, hx, dlt_f (by omega), cond_false]
    rcases spl_at s [] with ⟨-, h2, -⟩ | ⟨m, -, -, -, h4⟩
    · rw [h2]; simp; omega
    · omega
  | succ k ih =>
    intro i f hi hf s done hs hd hc
    obtain ⟨f, rfl⟩ : ∃ g, f = g + 1 := ⟨f - 1, by omega⟩
    rw [F_strings_genSplit_l1.eq_2, hx, dlt_t (by omega), cond_true, imIndex, Option.bind_some]
    rcases spl_at s [] with ⟨h1, -, -⟩ | ⟨m, h1, h2, h3, h4⟩
    · omega
    · have w1 : IntKind.i64.wrap ((m : Int) + 0) = (m : Int) := by rw [Int.add_zero]; exact W_id (by omega) (by omega)
      have w2 : IntKind.i64.wrap ((m : Int) + (List.length ([10] : Bytes) : Int)) = ((m + 1 : Nat) : Int) := W_succ h1 (by unfold maxLen; omega)
      have hlen : i < (done ++ List.replicate (k + 1 + 1) ([] : Bytes)).length := by rw [List.length_append, List.length_replicate]; omega
      rw [h2, show decide ((m : Int) < 0) = false from decide_eq_false (by omega), cond_false, w1, w2, sub_ok0 (by omega), idx_nat hlen, sub_ok (by omega) (Nat.le_refl _), Int.toNat_natCast, Int.toNat_natCast, Int.toNat_natCast, Int.toNat_natCast, List.take_length,
        show List.drop (Int.toNat 0) (s.take m) = s.take m from List.drop_zero, rep_set done (k + 1) [] (s.take m) hd, W_succ (n := N) (by omega) (by unfold maxLen; omega),
        ih (i + 1) f (by omega) (by omega) (s.drop (m + 1)) (done ++ [s.take m]) (by rw [List.length_drop]; omega) (by rw [List.length_append, List.length_singleton]; omega) (by omega), h3]
      simp
theorem imSplit (t : Bytes) (hl : t.length ≤ 1000000) : F_strings_Split t [10] = some ((spl [] t).1 ++ [(spl [] t).2]) := by
  have hcnt : t.count 10 ≤ t.length := List.count_le_length
  have hcl := spl_count t []
  have w1 : IntKind.i64.wrap (((t.count 10 : Nat) : Int) + 1) = ((t.count 10 + 1 : Nat) : Int) := W_succ (n := t.count 10 + 1) (by omega) (by unfold maxLen; omega)
  have w2 : IntKind.i64.wrap ((List.length t : Int) + 1) = ((t.length + 1 : Nat) : Int) := W_succ (n := t.length + 1) (by omega) (by unfold maxLen; omega)
  have w3 : imin ((t.count 10 + 1 : Nat) : Int) ((t.length + 1 : Nat) : Int) = ((t.count 10 + 1 : Nat) : Int) := by unfold imin; rw [if_neg (by omega)]
  have w4 : IntKind.i64.wrap (((t.count 10 + 1 : Nat) : Int) - 1) = ((t.count 10 : Nat) : Int) := by rw [W_pred (by omega) (by unfold maxLen; omega)]; rfl
  have hx : IntKind.i64.wrap ((imin ((t.count 10 + 1 : Nat) : Int) (IntKind.i64.wrap ((List.length t : Int) + 1))) - 1) = ((t.count 10 : Nat) : Int) := by rw [w2, w3, w4]
  unfold F_strings_Split F_strings_genSplit
  rw [show ((-1 : Int) == 0) = false from rfl, cond_false, show (([10] : Bytes) == []) = false from rfl, cond_false, show decide ((-1 : Int) < 0) = true from rfl, cond_true, show F_strings_Count t [10] = some ((t.count 10 : Nat) : Int) from rfl, Option.bind_some, w1, Option.bind_some, w2, w3, mk_ok (by omega), w4, Int.toNat_natCast]
  have := split_l1 t ((t.count 10 + 1 : Nat) : Int) (t.count 10) (by omega) hx (t.count 10) 0 (Int.toNat (((t.count 10 : Nat) : Int) - 0) + 2) (by omega) (by omega) t [] hl rfl rfl
  rw [List.nil_append, List.nil_append] at this
  rw [show F_strings_genSplit_l1 ((t.count 10 + 1 : Nat) : Int) t [10] 0 (Int.toNat (((t.count 10 : Nat) : Int) - 0) + 2) t (List.replicate (t.count 10 + 1) []) 0 = _ from this, Option.bind_some]
  show Option.bind (idx ((spl [] t).1 ++ [[]]) ((t.count 10 : Nat) : Int) _) _ = _
  have hlen : t.count 10 < ((spl [] t).1 ++ [[]]).length := by rw [List.length_append, hcl, List.length_singleton]; omega
  have hset : ((spl [] t).1 ++ [[]]).set (t.count 10) (spl [] t).2 = (spl [] t).1 ++ [(spl [] t).2] := by
    rw [← hcl, List.set_append_right _ _ (Nat.le_refl _), Nat.sub_self]; rfl
  rw [idx_nat hlen]
  rw [Int.toNat_natCast, hset, w1, sub_ok0 (by rw [List.length_append, hcl, List.length_singleton]; exact Nat.le_refl _), Int.toNat_natCast,
    show List.take (t.count 10 + 1) ((spl [] t).1 ++ [(spl [] t).2]) = (spl [] t).1 ++ [(spl [] t).2] from List.take_of_length_le (by rw [List.length_append, hcl, List.length_singleton]; exact Nat.le_refl _)]
  rfl
theorem spl_len : ∀ (t cur : Bytes), (∀ l ∈ (spl cur t).1, l.length ≤ cur.length + t.length) ∧ (spl cur t).2.length ≤ cur.length + t.length := by
  intro t
  induction t with
  | nil => intro cur; exact ⟨fun l h => (by cases h), Nat.le_refl _⟩
  | cons c t ih =>
    intro cur
    rw [spl]
    by_cases hc : c.toNat = 10
    · rw [if_pos hc]
      obtain ⟨h1, h2⟩ := ih []
      rw [List.length_nil] at h1 h2
      refine ⟨fun l hl => ?_, by show (spl [] t).2.length ≤ _; rw [List.length_cons]; omega⟩
      rcases List.mem_cons.1 hl with rfl | hl
      · omega
      · have := h1 l hl; rw [List.length_cons]; omega
    · rw [if_neg hc]
      obtain ⟨h1, h2⟩ := ih (cur ++ [c])
      rw [List.length_append, List.length_singleton] at h1 h2
      exact ⟨fun l hl => by have := h1 l hl; rw [List.length_cons]; omega, by rw [List.length_cons]; omega⟩
/-! a text up to a byte, and behind it -/
def cutB (c : Nat) : Bytes → Bytes × Bytes
  | [] => ([], [])
  | x :: l => if x.toNat = c then ([], l) else (x :: (cutB c l).1, (cutB c l).2)
theorem cut_at (c : UInt8) : ∀ s : Bytes, (Lib.indexByte s c = -1 ∧ cutB c.toNat s = (s, [])) ∨ ∃ m, m < s.length ∧ Lib.indexByte s c = (m : Int) ∧ cutB c.toNat s = (s.take m, s.drop (m + 1)) := by
  intro s
  induction s with
  | nil => exact .inl ⟨rfl, rfl⟩
  | cons x s ih =>
    by_cases hc : x = c
    · subst hc
      refine .inr ⟨0, by simp, by unfold Lib.indexByte; rw [beq_self_eq_true]; rfl, ?_⟩
      rw [cutB, if_pos rfl]; rfl
    · have hn : ¬ x.toNat = c.toNat := fun h => hc (UInt8.toNat.inj h)
      have hb : (x == c) = false := beq_eq_false_iff_ne.2 hc
      rcases ih with ⟨h1, h2⟩ | ⟨m, h1, h2, h3⟩
      · refine .inl ⟨by unfold Lib.indexByte; rw [hb, h1]; rfl, by rw [cutB, if_neg hn, h2]⟩
      · refine .inr ⟨m + 1, by simp; omega, ?_, by rw [cutB, if_neg hn, h3]; rfl⟩
        unfold Lib.indexByte
        rw [hb, h2, if_neg (by decide), if_neg (by rw [beq_iff_eq]; omega)]
        omega
theorem imCut (s : Bytes) (c : UInt8) (hl : s.length ≤ maxLen) : ∃ b, F_strings_Cut s [c] = some ((cutB c.toNat s).1, (cutB c.toNat s).2, b) := by
  unfold F_strings_Cut F_stringslite_Cut
  rw [show F_stringslite_Index s [c] = some (Lib.indexByte s c) from rfl, Option.bind_some]
  rcases cut_at c s with ⟨h1, h2⟩ | ⟨m, h1, h2, h3⟩
  · rw [h1, h2]
    exact ⟨_, rfl⟩
  · have w2 : IntKind.i64.wrap ((m : Int) + (List.length ([c] : Bytes) : Int)) = ((m + 1 : Nat) : Int) := W_succ h1 hl
    rw [h2, h3, show decide ((m : Int) ≥ 0) = true from decide_eq_true (by omega), cond_true, sub_ok0 (by omega), w2, sub_ok (by omega) (Nat.le_refl _), Int.toNat_natCast, Int.toNat_natCast, Int.toNat_natCast, List.take_length]
    exact ⟨_, rfl⟩
theorem cut_len (c : Nat) : ∀ s : Bytes, (cutB c s).1.length ≤ s.length ∧ (cutB c s).2.length ≤ s.length := by
  intro s
  induction s with
  | nil => exact ⟨Nat.le_refl _, Nat.le_refl _⟩
  | cons x s ih =>
    rw [cutB]
    split
    · simp
    · simp; omega
end Go.FX
