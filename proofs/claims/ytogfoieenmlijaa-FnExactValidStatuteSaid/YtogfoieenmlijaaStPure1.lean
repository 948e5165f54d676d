/- The pure part: what the functions compute, in plain Lean, with no program in sight; no condition. -/
import Derived.Test.YtogfoieenmlijaaStFns
namespace Go.FX
open Go Go.GL Go.RowKit
theorem W_id {n : Int} (h1 : -9223372036854775808 ≤ n) (h2 : n ≤ 9223372036854775807) : IntKind.i64.wrap n = n := W64_id h1 h2
theorem W_succ {i n : Nat} (h : i < n) (hn : n ≤ maxLen) : IntKind.i64.wrap ((i : Int) + 1) = ((i + 1 : Nat) : Int) := by
  unfold maxLen at hn
  rw [W_id (by omega) (by omega)]; omega
theorem dlt_t {a b : Nat} (h : a < b) : decide ((a : Int) < (b : Int)) = true := by simp; omega
theorem dlt_f {a b : Nat} (h : ¬ a < b) : decide ((a : Int) < (b : Int)) = false := by simp; omega

/-! sizes: sz says yes only where the lengths are small -/
theorem sz_article (a : LArticle) (x : Int) (h0 : 0 ≤ x) (hx : x ≤ 1048576) (hl : a.fText.length ≤ maxLen) :
    F_laws_szArticle a x = some (if x < a.fText.length then -1 else x - a.fText.length) := by
  unfold F_laws_szArticle maxLen at *
  rw [W_id (by omega) (by omega)]
  by_cases h : x < a.fText.length
  · rw [if_pos h, show decide (x - (a.fText.length : Int) < 0) = true from decide_eq_true (by omega)]; rfl
  · rw [if_neg h, show decide (x - (a.fText.length : Int) < 0) = false from decide_eq_false (by omega)]; rfl
/-- what is left behind a list -/
def szL {α : Type} (f : α → Nat) : List α → Int → Int
  | [], x => x
  | a :: r, x => if x < f a then -1 else szL f r (x - f a)
theorem szL_le {α : Type} (f : α → Nat) : ∀ (l : List α) (x : Int), 0 ≤ x → szL f l x ≤ x ∧ -1 ≤ szL f l x
  | [], x, h => by simp [szL]; omega
  | a :: r, x, h => by
    unfold szL
    split
    · omega
    · have := szL_le f r (x - f a) (by omega); omega
theorem szArticleS_l1 (l : List LArticle) (hl : l.length ≤ maxLen) (hg : ∀ a ∈ l, a.fText.length ≤ maxLen) : ∀ (k i : Nat) (fuel : Nat) (x : Int), i + k = l.length → k < fuel → 0 ≤ x → x ≤ 1048576 →
    F_laws_szArticleS_l1 l fuel x i = some (szL (fun a => a.fText.length) (l.drop i) x) := by
  intro k
  induction k with
  | zero =>
    intro i fuel x hi hf h0 hx
    obtain ⟨n, rfl⟩ : ∃ n, fuel = n + 1 := ⟨fuel - 1, by omega⟩
    rw [F_laws_szArticleS_l1.eq_2, dlt_f (by omega), List.drop_of_length_le (by omega)]
    rfl
  | succ k ih =>
    intro i fuel x hi hf h0 hx
    obtain ⟨n, rfl⟩ : ∃ n, fuel = n + 1 := ⟨fuel - 1, by omega⟩
    have hil : i < l.length := by omega
    have hsz := sz_article l[i] x h0 hx (hg _ (List.getElem_mem hil))
    rw [F_laws_szArticleS_l1.eq_2, dlt_t hil, cond_true, idx_nat hil, hsz, Option.bind_some, W_succ hil hl, List.drop_eq_getElem_cons hil, szL]
    by_cases hc : x < l[i].fText.length
    · rw [if_pos hc, if_pos hc]; rfl
    · rw [if_neg hc, if_neg hc, show decide (x - (l[i].fText.length : Int) < 0) = false from decide_eq_false (by omega), cond_false]
      exact ih (i + 1) n _ (by omega) (by omega) (by omega) (by omega)
theorem szArticleS (l : List LArticle) (hl : l.length ≤ maxLen) (hg : ∀ a ∈ l, a.fText.length ≤ maxLen) (x : Int) (h0 : 0 ≤ x) (hx : x ≤ 1048576) :
    F_laws_szArticleS l x = some (if x < l.length then -1 else szL (fun a => a.fText.length) l (x - l.length)) := by
  unfold F_laws_szArticleS
  unfold maxLen at hl
  rw [W_id (by omega) (by omega)]
  by_cases h : x < l.length
  · rw [if_pos h, show decide (x - (l.length : Int) < 0) = true from decide_eq_true (by omega)]; rfl
  · rw [if_neg h, show decide (x - (l.length : Int) < 0) = false from decide_eq_false (by omega), cond_false]
    exact szArticleS_l1 l hl hg l.length 0 _ _ (by omega) (by omega) (by omega) (by omega)
/-! copies -/
def toArt (a : LArticle) : DArticle := ⟨a.fId, a.fText⟩
theorem toArticleS_l1 (l : List LArticle) (hl : l.length ≤ maxLen) : ∀ (k i : Nat) (fuel : Nat) (acc : List DArticle), i + k = l.length → k < fuel → acc.length = l.length →
    F_laws_toArticleS_l1 l fuel acc i = some (acc.take i ++ (l.drop i).map toArt) := by
  intro k
  induction k with
  | zero =>
    intro i fuel acc hi hf ha
    obtain ⟨n, rfl⟩ : ∃ n, fuel = n + 1 := ⟨fuel - 1, by omega⟩
    rw [F_laws_toArticleS_l1.eq_2, dlt_f (by omega), List.drop_of_length_le (by omega), List.take_of_length_le (by omega)]
    simp
  | succ k ih =>
    intro i fuel acc hi hf ha
    obtain ⟨n, rfl⟩ : ∃ n, fuel = n + 1 := ⟨fuel - 1, by omega⟩
    have hil : i < l.length := by omega
    rw [F_laws_toArticleS_l1.eq_2, dlt_t hil, cond_true, idx_nat hil, F_laws_toArticle, Option.bind_some, idx_nat (by omega : i < acc.length), W_succ hil hl]
    rw [Int.toNat_natCast, ih (i + 1) n _ (by omega) (by omega) (by simpa using ha)]
    congr 1
    rw [List.drop_eq_getElem_cons hil, List.map_cons, List.take_succ_eq_append_getElem (by simp; omega)]
    simp only [List.take_set, List.getElem_set_self, List.append_assoc, List.singleton_append]
    rw [List.set_eq_of_length_le (by simp; omega)]
    rfl
theorem toArticleS (l : List LArticle) (hl : l.length ≤ 1048576) : F_laws_toArticleS l = some (l.map toArt) := by
  unfold F_laws_toArticleS GL.mk
  rw [grd_eq (by simp), grd_eq (by simp; omega)]
  have h := toArticleS_l1 l (by unfold maxLen; omega) l.length 0 (l.length + 1) (List.replicate (Int.toNat (l.length : Int)) (DArticle.mk 0 [])) (by omega) (by omega) (by simp)
  simpa using h
/-! equality -/
theorem bne_t {α : Type} [BEq α] [LawfulBEq α] {a b : α} (h : a ≠ b) : (a != b) = true := by simp [h]
theorem bne_f {α : Type} [BEq α] [LawfulBEq α] {a b : α} (h : a = b) : (a != b) = false := by simp [h]
theorem eqArticle (a b : DArticle) : F_laws_eqArticle a b = some (decide (a = b)) := by
  unfold F_laws_eqArticle
  obtain ⟨i, s⟩ := a
  obtain ⟨j, t⟩ := b
  by_cases h1 : i = j
  · by_cases h2 : s = t
    · subst h1; subst h2; simp
    · rw [bne_f h1, cond_false]; show (bif (s != t) then some false else some true) = _; rw [bne_t h2, cond_true]; simp [h2]
  · simp only [bne_t h1, cond_true]; simp [h1]
theorem eqArticleS_l1 (a b : List DArticle) (hl : a.length ≤ maxLen) (hb : a.length = b.length) : ∀ (k i : Nat) (fuel : Nat), i + k = a.length → k < fuel →
    F_laws_eqArticleS_l1 a b fuel i = some (decide (a.drop i = b.drop i)) := by
  intro k
  induction k with
  | zero =>
    intro i fuel hi hf
    obtain ⟨n, rfl⟩ : ∃ n, fuel = n + 1 := ⟨fuel - 1, by omega⟩
    rw [F_laws_eqArticleS_l1.eq_2, dlt_f (by omega), List.drop_of_length_le (by omega), List.drop_of_length_le (by omega)]
    simp
  | succ k ih =>
    intro i fuel hi hf
    obtain ⟨n, rfl⟩ : ∃ n, fuel = n + 1 := ⟨fuel - 1, by omega⟩
    have hil : i < a.length := by omega
    have hib : i < b.length := by omega
    rw [F_laws_eqArticleS_l1.eq_2, dlt_t hil, cond_true, idx_nat hil, idx_nat hib, eqArticle, Option.bind_some, W_succ hil hl, ih (i + 1) n (by omega) (by omega), List.drop_eq_getElem_cons hil, List.drop_eq_getElem_cons hib]
    by_cases h : a[i] = b[i]
    · rw [show decide (a[i] = b[i]) = true by simp [h]]; simp only [Bool.not_true, cond_false, List.cons.injEq, h, true_and]
    · rw [show decide (a[i] = b[i]) = false by simp [h]]; simp only [Bool.not_false, cond_true, List.cons.injEq, h, false_and, decide_false]
theorem eqArticleS (a b : List DArticle) (hl : a.length ≤ maxLen) : F_laws_eqArticleS a b = some (decide (a = b)) := by
  unfold F_laws_eqArticleS
  by_cases h : a.length = b.length
  · rw [show ((a.length : Int) != (b.length : Int)) = false by simp [h], cond_false]
    have := eqArticleS_l1 a b hl h a.length 0 (a.length + 1) (by omega) (by omega)
    simpa using this
  · rw [show ((a.length : Int) != (b.length : Int)) = true by simp; omega, cond_true]
    have : ¬ a = b := fun e => h (by rw [e])
    simp [this]
/-! sentences -/
def okc (c : UInt8) : Bool := (Nat.ble 97 c.toNat && Nat.ble c.toNat 122) || (Nat.ble 48 c.toNat && Nat.ble c.toNat 57) || Nat.beq c.toNat 32
set_option maxRecDepth 100000 in
theorem okc_eq (c : UInt8) : (bif (decide ((c.toNat : Int) ≥ 97)) then ((!(decide ((c.toNat : Int) ≤ 122))) && (bif (decide ((c.toNat : Int) ≥ 48)) then ((!(decide ((c.toNat : Int) ≤ 57))) && (!((c.toNat : Int) == 32))) else (!((c.toNat : Int) == 32)))) else (bif (decide ((c.toNat : Int) ≥ 48)) then ((!(decide ((c.toNat : Int) ≤ 57))) && (!((c.toNat : Int) == 32))) else (!((c.toNat : Int) == 32)))) = !okc c := by
  have h : ∀ n : Fin 256, (bif (decide ((n.val : Int) ≥ 97)) then ((!(decide ((n.val : Int) ≤ 122))) && (bif (decide ((n.val : Int) ≥ 48)) then ((!(decide ((n.val : Int) ≤ 57))) && (!((n.val : Int) == 32))) else (!((n.val : Int) == 32)))) else (bif (decide ((n.val : Int) ≥ 48)) then ((!(decide ((n.val : Int) ≤ 57))) && (!((n.val : Int) == 32))) else (!((n.val : Int) == 32)))) = !((Nat.ble 97 n.val && Nat.ble n.val 122) || (Nat.ble 48 n.val && Nat.ble n.val 57) || Nat.beq n.val 32) := by decide
  exact h c.toFin
def endsOk (t : Bytes) : Bool := match t[0]?, t[t.length - 1]? with
  | some a, some b => !(Nat.beq a.toNat 32) && !(Nat.beq b.toNat 32)
  | _, _ => false
def sent (t : Bytes) : Bool := decide (1 ≤ t.length) && decide (t.length ≤ 24) && endsOk t && t.all okc
theorem up {n : Nat} {P : Nat → Nat → Prop} (he : ∀ f, P n (f + 1)) (hs : ∀ i f, i < n → P (i + 1) f → P i (f + 1)) : ∀ k i f, i + k = n → k < f → P i f := by
  intro k
  induction k with
  | zero => intro i f h hf; obtain ⟨m, rfl⟩ : ∃ m, f = m + 1 := ⟨f - 1, by omega⟩; rw [show i = n by omega]; exact he m
  | succ k ih => intro i f h hf; obtain ⟨m, rfl⟩ : ∃ m, f = m + 1 := ⟨f - 1, by omega⟩; exact hs i m (by omega) (ih (i + 1) m (by omega) (by omega))
theorem spSentence_l1 (t : Bytes) (hl : t.length ≤ maxLen) : ∀ k i f, i + k = t.length → k < f → F_spec_l07Sentence_l1 t f i = some ((t.drop i).all okc) := by
  refine up (P := fun i f => F_spec_l07Sentence_l1 t f i = some ((t.drop i).all okc)) (fun f => ?_) (fun i f hi ih => ?_)
  · rw [F_spec_l07Sentence_l1.eq_2, dlt_f (by omega), cond_false]; simp
  · rw [F_spec_l07Sentence_l1.eq_2, dlt_t hi, cond_true, idx_nat hi, okc_eq, W_succ hi hl, ih, List.drop_eq_getElem_cons hi, List.all_cons]
    cases okc t[i] <;> rfl
theorem W_pred {n : Nat} (h : 1 ≤ n) (hn : n ≤ maxLen) : IntKind.i64.wrap ((n : Int) - 1) = ((n - 1 : Nat) : Int) := by
  unfold maxLen at hn
  rw [W_id (by omega) (by omega)]; omega
theorem idx0 {α β : Type} {l : List α} {k : α → Option β} (h : 0 < l.length) : idx l 0 k = k l[0] := idx_nat (i := 0) h
theorem beq_nat {n : Nat} (m : Nat) : ((n : Int) == (m : Int)) = Nat.beq n m := by
  rw [Bool.eq_iff_iff]; simp; omega
theorem bne_nat {n : Nat} (m : Nat) : ((n : Int) != (m : Int)) = !Nat.beq n m := by rw [bne, beq_nat]
theorem beq32 {n : Nat} : ((n : Int) == 32) = Nat.beq n 32 := beq_nat 32
theorem bne32 {n : Nat} : ((n : Int) != 32) = !Nat.beq n 32 := bne_nat 32
theorem spSentence (t : Bytes) (hl : t.length ≤ maxLen) : F_spec_l07Sentence t = some (sent t) := by
  unfold F_spec_l07Sentence sent
  have h1 := spSentence_l1 t hl t.length 0 (t.length + 1) (by omega) (by omega)
  rw [show ((0 : Nat) : Int) = 0 from rfl] at h1
  rw [h1, List.drop_zero]
  by_cases ha : 1 ≤ t.length
  · rw [show decide ((t.length : Int) < 1) = false from decide_eq_false (by omega), cond_false, show decide (1 ≤ t.length) = true from decide_eq_true (by omega)]
    by_cases hb : t.length ≤ 24
    · rw [show decide ((t.length : Int) > 24) = false from decide_eq_false (by omega), cond_false, show decide (t.length ≤ 24) = true from decide_eq_true (by omega), idx0 (by omega), W_pred ha hl, idx_nat (by omega), beq32, beq32]
      rw [show endsOk t = (!(Nat.beq t[0].toNat 32) && !(Nat.beq (t[t.length - 1]'(by omega)).toNat 32)) by unfold endsOk; rw [List.getElem?_eq_getElem (by omega), List.getElem?_eq_getElem (by omega)]]
      cases Nat.beq t[0].toNat 32 <;> cases Nat.beq (t[t.length - 1]'(by omega)).toNat 32 <;> rfl
    · rw [show decide ((t.length : Int) > 24) = true from decide_eq_true (by omega), show decide (t.length ≤ 24) = false from decide_eq_false (by omega)]; rfl
  · rw [show decide ((t.length : Int) < 1) = true from decide_eq_true (by omega), show decide (1 ≤ t.length) = false from decide_eq_false (by omega)]; rfl
theorem imok (c : UInt8) {β : Type} (A B : Option β) : (Option.bind (bif (decide ((c.toNat : Int) < 97)) then (
    bif (decide ((c.toNat : Int) < 48)) then (
    some ((c.toNat : Int) != 32)) else (
    bif (decide ((c.toNat : Int) > 57)) then (
    some ((c.toNat : Int) != 32)) else (
    some false))) else (
    bif (decide ((c.toNat : Int) > 122)) then (
    bif (decide ((c.toNat : Int) < 48)) then (
    some ((c.toNat : Int) != 32)) else (
    bif (decide ((c.toNat : Int) > 57)) then (
    some ((c.toNat : Int) != 32)) else (
    some false))) else (
    some false))) fun q => bif q then A else B) = bif okc c then B else A := by
  have h : ∀ n : Fin 256, (bif (decide ((n.val : Int) < 97)) then (
    bif (decide ((n.val : Int) < 48)) then (
    some ((n.val : Int) != 32)) else (
    bif (decide ((n.val : Int) > 57)) then (
    some ((n.val : Int) != 32)) else (
    some false))) else (
    bif (decide ((n.val : Int) > 122)) then (
    bif (decide ((n.val : Int) < 48)) then (
    some ((n.val : Int) != 32)) else (
    bif (decide ((n.val : Int) > 57)) then (
    some ((n.val : Int) != 32)) else (
    some false))) else (
    some false))) = some (!((Nat.ble 97 n.val && Nat.ble n.val 122) || (Nat.ble 48 n.val && Nat.ble n.val 57) || Nat.beq n.val 32)) := by decide +kernel
  have := h c.toFin
  refine (congrArg (fun o => Option.bind o fun q => bif q then A else B) this).trans ?_
  show (bif !okc c then A else B) = _
  cases okc c <;> rfl
theorem imSentence_l1 (t : Bytes) (hl : t.length ≤ maxLen) : ∀ k i f, i + k = t.length → k < f → F_impl_isSentence_l1 t f i = some (bif (t.drop i).all okc then Sum.inr () else Sum.inl false) := by
  refine up (P := fun i f => F_impl_isSentence_l1 t f i = some (bif (t.drop i).all okc then Sum.inr () else Sum.inl false)) (fun f => ?_) (fun i f hi ih => ?_)
  · rw [F_impl_isSentence_l1.eq_2, dlt_f (by omega), cond_false]; simp
  · rw [F_impl_isSentence_l1.eq_2, dlt_t hi, cond_true]
    simp only [idx_nat hi]
    rw [imok, W_succ hi hl, ih, List.drop_eq_getElem_cons hi, List.all_cons]
    cases okc t[i] <;> rfl
theorem imSentence (t : Bytes) (hl : t.length ≤ maxLen) : F_impl_isSentence t = some (sent t) := by
  unfold F_impl_isSentence sent
  have h1 := imSentence_l1 t hl t.length 0 (t.length + 1) (by omega) (by omega)
  rw [show ((0 : Nat) : Int) = 0 from rfl] at h1
  rw [h1, List.drop_zero, Option.bind_some]
  cases ho : t.all okc
  · simp [sumK]
  · show Option.bind (bif _ then _ else _) _ = _
    by_cases ha : 1 ≤ t.length
    · rw [show decide ((t.length : Int) ≥ 1) = true from decide_eq_true (by omega), cond_true, show decide (1 ≤ t.length) = true from decide_eq_true (by omega)]
      by_cases hb : t.length ≤ 24
      · rw [show decide ((t.length : Int) ≤ 24) = true from decide_eq_true (by omega), cond_true, show decide (t.length ≤ 24) = true from decide_eq_true (by omega), idx0 (by omega), W_pred ha hl, idx_nat (by omega), bne32, bne32]
        rw [show endsOk t = (!(Nat.beq t[0].toNat 32) && !(Nat.beq (t[t.length - 1]'(by omega)).toNat 32)) by unfold endsOk; rw [List.getElem?_eq_getElem (by omega), List.getElem?_eq_getElem (by omega)]]
        cases Nat.beq t[0].toNat 32 <;> cases Nat.beq (t[t.length - 1]'(by omega)).toNat 32 <;> rfl
      · rw [show decide ((t.length : Int) ≤ 24) = false from decide_eq_false (by omega), show decide (t.length ≤ 24) = false from decide_eq_false (by omega)]; rfl
    · rw [show decide ((t.length : Int) ≥ 1) = false from decide_eq_false (by omega), show decide (1 ≤ t.length) = false from decide_eq_false (by omega)]; rfl
/-! the whole check: both sides give one answer -/
theorem stat_l1 (l : List DArticle) (hl : l.length ≤ maxLen) (hg : ∀ a ∈ l, a.fText.length ≤ maxLen) : ∀ k i f, i + k = l.length → k < f → ∃ b, F_spec_l07Statute_l1 l f i = some b ∧ F_impl_ValidStatute_l1 l f i = some b := by
  refine up (P := fun i f => ∃ b, F_spec_l07Statute_l1 l f i = some b ∧ F_impl_ValidStatute_l1 l f i = some b) (fun f => ?_) (fun i f hi ih => ?_)
  · rw [F_spec_l07Statute_l1.eq_2, F_impl_ValidStatute_l1.eq_2, dlt_f (by omega), cond_false, cond_false]; exact ⟨_, rfl, rfl⟩
  · obtain ⟨b, e1, e2⟩ := ih
    have hs := hg _ (List.getElem_mem hi)
    rw [F_spec_l07Statute_l1.eq_2, F_impl_ValidStatute_l1.eq_2, dlt_t hi, cond_true, cond_true]
    simp only [idx_nat hi, F_spec_l00In, F_impl_within, Option.bind_some, spSentence _ hs, imSentence _ hs, W_succ hi hl, e1, e2]
    cases (decide (l[i].fId ≥ 1) && decide (l[i].fId ≤ 99)) with
    | false => exact ⟨_, rfl, rfl⟩
    | true =>
      cases sent l[i].fText with
      | false => exact ⟨_, rfl, rfl⟩
      | true =>
        simp only [Bool.not_true, cond_false]
        by_cases h0 : 0 < i
        · rw [show decide ((i : Int) > 0) = true from decide_eq_true (by omega), cond_true, W_pred h0 (by omega)]
          simp only [idx_nat (show i - 1 < l.length by omega)]
          cases decide ((l[i - 1]'(by omega)).fId ≥ l[i].fId) <;> exact ⟨_, rfl, rfl⟩
        · rw [show decide ((i : Int) > 0) = false from decide_eq_false (by omega)]
          exact ⟨_, rfl, rfl⟩
theorem stat_eq (l : List DArticle) (hl : l.length ≤ maxLen) (hg : ∀ a ∈ l, a.fText.length ≤ maxLen) : ∃ b, F_spec_ValidStatute l = some b ∧ F_impl_ValidStatute l = some b := by
  obtain ⟨b, h1, h2⟩ := stat_l1 l hl hg l.length 0 (l.length + 1) (by omega) (by omega)
  exact ⟨b, by unfold F_spec_ValidStatute F_spec_l07Statute; rw [show F_spec_l07Statute_l1 l (l.length + 1) 0 = _ from h1]; rfl, h2⟩
theorem law_eq (l : List LArticle) (hl : l.length ≤ maxLen) (hg : ∀ a ∈ l, a.fText.length ≤ maxLen) : F_laws_FnExactValidStatute l = some true := by
  unfold F_laws_FnExactValidStatute
  rw [szArticleS l hl hg _ (by omega) (by omega), Option.bind_some]
  by_cases hx : (1048576 : Int) < l.length
  · rw [if_pos hx]; rfl
  · rw [if_neg hx, toArticleS l (by omega), Option.bind_some]
    obtain ⟨b, h1, h2⟩ := stat_eq (l.map toArt) (by simpa using hl) (by intro a ha; obtain ⟨c, hc, rfl⟩ := List.mem_map.1 ha; exact hg c hc)
    simp only [h1, h2, Option.bind_some, eqArticleS (l.map toArt) (l.map toArt) (by simpa using hl)]
    rw [bne_f rfl, cond_false]; simp only [decide_true, Bool.not_true, cond_false]
    cases decide (szL (fun a => List.length a.fText) l (1048576 - ↑l.length) < 0) <;> rfl
theorem law_pure (l : List LArticle) (h : l.length ≤ maxLen ∧ ∀ x ∈ l, InR x.fId ∧ x.fText.length ≤ maxLen) : F_laws_FnExactValidStatute l = some true :=
  law_eq l h.1 fun a ha => (h.2 a ha).2
end Go.FX
