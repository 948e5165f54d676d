/- The pure part: what the functions compute, in plain Lean, with no program in sight; no condition. -/
import Derived.Test.YtmeeomkjjnlaoaaRsPure24
namespace Go.FX
open Go Go.GL Go.RowKit
/-! the greatest strengths -/
section
variable {n : Nat} {M : Nat → Nat → Int}
def LeM (n : Nat) (S T : Nat → Nat → Int) : Prop := ∀ i k, i < n → k < n → S i k ≤ T i k
theorem LeM.refl {S : Nat → Nat → Int} : LeM n S S := fun _ _ _ _ => Int.le_refl _
theorem LeM.trans {S T U : Nat → Nat → Int} (h : LeM n S T) (k : LeM n T U) : LeM n S U := fun i j hi hj => Int.le_trans (h i j hi hj) (k i j hi hj)
theorem mx_l (a b : Int) : a ≤ mx a b := by unfold mx; split <;> omega
theorem mx_r (a b : Int) : b ≤ mx a b := by unfold mx; split <;> omega
theorem mx_or (a b : Int) : mx a b = a ∨ mx a b = b := by unfold mx; split <;> simp
theorem mi_le (a b : Int) : mi a b ≤ a ∧ mi a b ≤ b := by unfold mi; split <;> omega
theorem mi_mono {a b c d : Int} (h1 : a ≤ c) (h2 : b ≤ d) : mi a b ≤ mi c d := by unfold mi; split <;> split <;> omega
theorem stF_le {m i k : Nat} {S : Nat → Nat → Int} : LeM n S (stF m i S k) := fun a b _ _ => by
  unfold stF
  split
  · exact Int.le_refl _
  · show S a b ≤ if a = i ∧ b = k then mx (S i k) (mi (S i m) (S m k)) else S a b
    split
    · rename_i h; rw [h.1, h.2]; exact mx_l _ _
    · exact Int.le_refl _
/-- a fold whose steps only raise; what one step gives stays -/
theorem fold_le {f : (Nat → Nat → Int) → Nat → (Nat → Nat → Int)} (hf : ∀ S x, LeM n S (f S x)) : ∀ (l : List Nat) (S : Nat → Nat → Int), LeM n S (l.foldl f S) := by
  intro l
  induction l with
  | nil => intro S; exact LeM.refl
  | cons a l ih => intro S; rw [List.foldl_cons]; exact (hf S a).trans (ih _)
theorem fold_at {f : (Nat → Nat → Int) → Nat → (Nat → Nat → Int)} (hf : ∀ S x, LeM n S (f S x)) : ∀ (l : List Nat) (S : Nat → Nat → Int) (x : Nat), x ∈ l → ∃ T, LeM n S T ∧ LeM n (f T x) (l.foldl f S) := by
  intro l
  induction l with
  | nil => intro S x h; cases h
  | cons a l ih =>
    intro S x h
    rw [List.foldl_cons]
    rcases List.mem_cons.1 h with rfl | h
    · exact ⟨S, LeM.refl, fold_le hf l _⟩
    · obtain ⟨T, h1, h2⟩ := ih (f S a) x h
      exact ⟨T, (hf S a).trans h1, h2⟩
theorem strI_le {m i : Nat} {S : Nat → Nat → Int} : LeM n S (strI n m S i) := fold_le (fun _ _ => stF_le) _ _
theorem strB_le {m : Nat} {S : Nat → Nat → Int} : LeM n S (strB n S m) := fold_le (fun _ _ => strI_le) _ _
theorem strB_up {m i k : Nat} (hm : m < n) (hi : i < n) (hk : k < n) (hik : i ≠ k) {S : Nat → Nat → Int} : mi (S i m) (S m k) ≤ strB n S m i k := by
  obtain ⟨T, h1, h2⟩ := fold_at (n := n) (f := strI n m) (fun _ _ => strI_le) (List.range n) S i (List.mem_range.2 hi)
  obtain ⟨U, h3, h4⟩ := fold_at (n := n) (f := stF m i) (fun _ _ => stF_le) (List.range n) T k (List.mem_range.2 hk)
  have h5 : mi (U i m) (U m k) ≤ stF m i U k i k := by
    unfold stF
    rw [if_neg hik]
    show _ ≤ if i = i ∧ k = k then mx (U i k) (mi (U i m) (U m k)) else U i k
    rw [if_pos ⟨rfl, rfl⟩]
    exact mx_r _ _
  have h6 : mi (S i m) (S m k) ≤ mi (U i m) (U m k) := mi_mono (Int.le_trans (h1 i m hi hm) (h3 i m hi hm)) (Int.le_trans (h1 m k hm hk) (h3 m k hm hk))
  exact Int.le_trans h6 (Int.le_trans h5 (Int.le_trans (h4 i k hi hk) (h2 i k hi hk)))
/-- connected by way of options below m -/
def Cn (lk : Nat → Nat → Bool) (n m : Nat) (i k : Nat) : Prop := ∀ C : Nat → Nat → Prop, (∀ x y, x < n → y < n → lk x y = true → C x y) → (∀ x j y, x < n → y < n → j < m → C x j → C j y → C x y) → C i k
theorem cn_step {lk : Nat → Nat → Bool} {m i k : Nat} (hm : m < n) (hi : i < n) (hk : k < n) (h : Cn lk n (m + 1) i k) : Cn lk n m i k ∨ ((i = m ∨ Cn lk n m i m) ∧ (m = k ∨ Cn lk n m m k)) := by
  have tr : ∀ {x j y : Nat}, x < n → y < n → j < m → Cn lk n m x j → Cn lk n m j y → Cn lk n m x y := fun hx hy hj h1 h2 C hl ht => ht _ _ _ hx hy hj (h1 C hl ht) (h2 C hl ht)
  have key := h (fun x y => x < n ∧ y < n → (Cn lk n m x y ∨ ((x = m ∨ Cn lk n m x m) ∧ (m = y ∨ Cn lk n m m y)))) (fun x y hx hy hl _ => .inl fun C h1 _ => h1 x y hx hy hl) (fun x j y hx hy hj h1 h2 _ => by
    have hjn : j < n := by omega
    have h1 := h1 ⟨hx, hjn⟩
    have h2 := h2 ⟨hjn, hy⟩
    by_cases hjm : j = m
    · subst hjm
      refine .inr ⟨?_, ?_⟩
      · rcases h1 with h | h
        · exact .inr h
        · exact h.1
      · rcases h2 with h | h
        · exact .inr h
        · exact h.2
    · have hjl : j < m := by omega
      rcases h1 with h1 | ⟨h1, h1'⟩ <;> rcases h2 with h2 | ⟨h2, h2'⟩
      · exact .inl (tr hx hy hjl h1 h2)
      · refine .inr ⟨?_, h2'⟩
        rcases h2 with h2 | h2
        · exact absurd h2 hjm
        · exact .inr (tr hx hm hjl h1 h2)
      · refine .inr ⟨h1, ?_⟩
        rcases h1' with h1' | h1'
        · exact absurd h1'.symm hjm
        · exact .inr (tr hm hy hjl h1' h2)
      · exact .inr ⟨h1, h2'⟩)
  exact key ⟨hi, hk⟩
theorem fw_pos {lk : Nat → Nat → Bool} {S0 : Nat → Nat → Int} (h0 : ∀ i k, i < n → k < n → lk i k = true → 0 < S0 i k) : ∀ m, m ≤ n → ∀ i k, i < n → k < n → i ≠ k → Cn lk n m i k → 0 < (List.range m).foldl (strB n) S0 i k := by
  intro m
  induction m with
  | zero =>
    intro _ i k hi hk hik h
    have := h (fun x y => lk x y = true) (fun _ _ _ _ h => h) (fun _ _ _ _ _ hj => by omega)
    exact h0 i k hi hk this
  | succ m ih =>
    intro hm i k hi hk hik h
    rw [List.range_succ, List.foldl_append, List.foldl_cons, List.foldl_nil]
    have hmn : m < n := by omega
    have hle := strB_le (n := n) (m := m) (S := (List.range m).foldl (strB n) S0)
    rcases cn_step hmn hi hk h with h1 | ⟨h1, h2⟩
    · exact Int.lt_of_lt_of_le (ih (by omega) i k hi hk hik h1) (hle i k hi hk)
    · by_cases him : i = m
      · rcases h2 with h2 | h2
        · exact absurd (him.trans h2) hik
        · exact Int.lt_of_lt_of_le (ih (by omega) i k hi hk hik (by rw [him]; exact h2)) (hle i k hi hk)
      · by_cases hmk : m = k
        · rcases h1 with h1 | h1
          · exact absurd h1 him
          · exact Int.lt_of_lt_of_le (ih (by omega) i k hi hk hik (by rw [← hmk]; exact h1)) (hle i k hi hk)
        · have a1 : Cn lk n m i m := h1.resolve_left him
          have a2 : Cn lk n m m k := h2.resolve_left hmk
          have p1 := ih (by omega) i m hi hmn him a1
          have p2 := ih (by omega) m k hmn hk hmk a2
          have hup := strB_up (n := n) hmn hi hk hik (S := (List.range m).foldl (strB n) S0)
          have hmi : 0 < mi ((List.range m).foldl (strB n) S0 i m) ((List.range m).foldl (strB n) S0 m k) := by unfold mi; split <;> omega
          exact Int.lt_of_lt_of_le hmi hup
theorem cn_of_reach {lk : Nat → Nat → Bool} {i k : Nat} (hi : i < n) (h : Reach n lk i k) : i = k ∨ Cn lk n n i k := by
  have := h (fun x => x < n → (i = x ∨ Cn lk n n i x)) (fun _ => .inl rfl) (fun x y hx hy hC hl _ => by
    have h1 : Cn lk n n x y := fun C hc _ => hc x y hx hy hl
    rcases hC hx with h2 | h2
    · subst h2; exact .inr h1
    · exact .inr fun C hc ht => ht i x y hi hy hx (h2 C hc ht) (h1 C hc ht))
  by_cases hk : k < n
  · exact this hk
  · have h2 := h (fun x => x < n) hi (fun x y _ hy _ _ => hy)
    exact absurd h2 hk
/-- each strength is that of a way -/
def Snd (n : Nat) (L S : Nat → Nat → Int) : Prop := ∀ i k, i < n → k < n → 0 < S i k → Reach n (lnk L (S i k)) i k
theorem reach_mono {L : Nat → Nat → Int} {t t' : Int} (h : t' ≤ t) {i k : Nat} (hr : Reach n (lnk L t) i k) : Reach n (lnk L t') i k := fun C h0 hs => hr C h0 fun x y hx hy hC hl => hs x y hx hy hC (by
  unfold lnk at *
  rw [decide_eq_true_eq] at *
  omega)
theorem reach_trans {L : Nat → Nat → Int} {t : Int} {i m k : Nat} (h1 : Reach n (lnk L t) i m) (h2 : Reach n (lnk L t) m k) : Reach n (lnk L t) i k := fun C h0 hs => h2 C (h1 C h0 hs) hs
theorem snd_step {L S : Nat → Nat → Int} {m i k : Nat} (hm : m < n) (hi : i < n) (hk : k < n) (h : Snd n L S) : Snd n L (stF m i S k) := by
  intro a b ha hb hp
  unfold stF at hp ⊢
  by_cases hik : i = k
  · rw [if_pos hik] at hp ⊢
    exact h a b ha hb hp
  · rw [if_neg hik] at hp ⊢
    have hp' : 0 < if a = i ∧ b = k then mx (S i k) (mi (S i m) (S m k)) else S a b := hp
    show Reach n (lnk L (if a = i ∧ b = k then mx (S i k) (mi (S i m) (S m k)) else S a b)) a b
    by_cases hab : a = i ∧ b = k
    · rw [if_pos hab] at hp' ⊢
      obtain ⟨rfl, rfl⟩ := hab
      rcases mx_or (S a b) (mi (S a m) (S m b)) with e | e
      · rw [e] at hp' ⊢; exact h a b ha hb hp'
      · rw [e] at hp' ⊢
        obtain ⟨l1, l2⟩ := mi_le (S a m) (S m b)
        exact reach_trans (reach_mono l1 (h a m ha hm (by omega))) (reach_mono l2 (h m b hm hb (by omega)))
    · rw [if_neg hab] at hp' ⊢
      exact h a b ha hb hp'
theorem fold_inv {α : Type} {P : α → Prop} {f : α → Nat → α} : ∀ {l : List Nat} {a : α}, P a → (∀ a x, x ∈ l → P a → P (f a x)) → P (l.foldl f a) := by
  intro l
  induction l with
  | nil => intro a h _; exact h
  | cons x l ih => intro a h hs; exact ih (hs a x (List.mem_cons_self ..) h) fun b y hy => hs b y (List.mem_cons_of_mem _ hy)
theorem strM_snd : Snd n (linkM M) (strM n M) := by
  unfold strM
  refine fold_inv ?_ fun S m hm hS => fold_inv hS fun S i hi hS => fold_inv hS fun S k hk hS => snd_step (List.mem_range.1 hm) (List.mem_range.1 hi) (List.mem_range.1 hk) hS
  intro i k hi hk _
  exact Reach.refl.step hi hk (by unfold lnk; exact decide_eq_true (Int.le_refl _))
theorem strM_pos {a b : Nat} (ha : a < n) (hb : b < n) (hab : a ≠ b) (h : Reach n (lnk (linkM M) 1) a b) : 0 < strM n M a b := by
  rcases cn_of_reach ha h with h | h
  · exact absurd h hab
  · refine fw_pos (fun i k _ _ hl => ?_) n (Nat.le_refl _) a b ha hb hab h
    unfold lnk at hl
    have := of_decide_eq_true hl
    omega
theorem strM_nn (hM : ∀ i k, 0 ≤ M i k) {a b : Nat} (ha : a < n) (hb : b < n) : 0 ≤ strM n M a b := by
  have h1 := fold_le (n := n) (f := strB n) (fun _ _ => strB_le) (List.range n) (linkM M) a b ha hb
  have h2 : 0 ≤ linkM M a b := by unfold linkM; split; exact hM a b; exact Int.le_refl _
  exact Int.le_trans h2 h1
end
end Go.FX
