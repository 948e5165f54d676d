/- The pure part: what the functions compute, in plain Lean, with no program in sight; no condition. -/
import Derived.Test.YtgppfoppfkgfdaaSaPure2
namespace Go.FX
open Go Go.GL Go.RowKit
/-! statutes -/
def smT (l : List DArticle) : Prop := l.length ≤ maxLen ∧ ∀ a ∈ l, a.fText.length ≤ maxLen
def statC (l : List DArticle) (i : Nat) : Bool := match l[i]? with
  | some a => within a.fId 1 99 && sent a.fText && pairAt (fun a b => decide (a.fId < b.fId)) l i
  | none => false
theorem statC_at {l : List DArticle} {i : Nat} (hi : i < l.length) : statC l i = (within l[i].fId 1 99 && sent l[i].fText && pairAt (fun a b => decide (a.fId < b.fId)) l i) := by
  unfold statC
  rw [List.getElem?_eq_getElem hi]
def statOk (l : List DArticle) : Bool := decide (∀ i, i < l.length → statC l i = true) && decide (l.length ≤ 8)
theorem spStat (l : List DArticle) (h : smT l) : F_spec_l07Statute l = some (statOk l) := by
  unfold F_spec_l07Statute statOk
  rw [show decide (l.length ≤ 8) = decide ((l.length : Int) ≤ 8) by rw [decide_eq_decide]; omega]
  refine all_loop (F := F_spec_l07Statute_l1 l) (statC l) (fun f => by rw [F_spec_l07Statute_l1.eq_2, dlt_f (by omega)]; rfl) (fun i f hi => ?_)
  rw [F_spec_l07Statute_l1.eq_2, dlt_t hi, cond_true]
  simp only [idx_nat hi, spIn, spSentence _ (h.2 _ (List.getElem_mem hi)), Option.bind_some, W_succ hi h.1]
  rw [pair_code (R := fun a b => decide (a.fId < b.fId)) hi h.1 (fun x _ => by rw [not_ge]), statC_at hi]
  cases within l[i].fId 1 99 <;> cases sent l[i].fText <;> cases pairAt (fun a b => decide (a.fId < b.fId)) l i <;> rfl
theorem imStat (l : List DArticle) (h : smT l) : F_impl_ValidStatute l = some (statOk l) := by
  unfold F_impl_ValidStatute statOk
  rw [show decide (l.length ≤ 8) = decide ((l.length : Int) ≤ 8) by rw [decide_eq_decide]; omega]
  refine all_loop (F := F_impl_ValidStatute_l1 l) (statC l) (fun f => by rw [F_impl_ValidStatute_l1.eq_2, dlt_f (by omega)]; rfl) (fun i f hi => ?_)
  rw [F_impl_ValidStatute_l1.eq_2, dlt_t hi, cond_true]
  simp only [idx_nat hi, imIn, imSentence _ (h.2 _ (List.getElem_mem hi)), Option.bind_some, W_succ hi h.1]
  rw [pair_code (R := fun a b => decide (a.fId < b.fId)) hi h.1 (fun x _ => by rw [not_ge]), statC_at hi]
  cases within l[i].fId 1 99 <;> cases sent l[i].fText <;> cases pairAt (fun a b => decide (a.fId < b.fId)) l i <;> rfl
theorem smT_to {l : List LArticle} (h : l.length ≤ maxLen ∧ ∀ e ∈ l, ok_LArticle e) : smT (l.map to_LArticle) := by
  refine ⟨by rw [List.length_map]; exact h.1, fun e he => ?_⟩
  obtain ⟨c, hc, rfl⟩ := List.mem_map.1 he
  exact (h.2 c hc).2
def ft (l : List DArticle) (id : Int) : Bytes := ((l.find? fun a => a.fId == id).map DArticle.fText).getD []
theorem spFind (l : List DArticle) (id : Int) (hl : l.length ≤ maxLen) : F_spec_l07Find l id = some (ft l id) :=
  find_loop (l := l) (F := F_spec_l07Find_l1 l id) (p := fun a => a.fId == id) (g := DArticle.fText) (z := []) (fun _ _ => rfl) hl
theorem imArticle (l : List DArticle) (id : Int) (hl : l.length ≤ maxLen) : F_impl_article l id = some (fidx (fun a : DArticle => a.fId == id) l) := by
  unfold F_impl_article
  have h : F_slices_IndexFunc_impl_Article_impl_Article__impl_article_1 l id = some (fidx (fun a : DArticle => a.fId == id) l) :=
    idxf_loop (F := F_slices_IndexFunc_impl_Article_impl_Article__impl_article_1_l1 l id) (P := fun x => F_impl_article_1 x id) _ (fun _ _ => rfl) hl (fun _ _ => rfl)
  rw [h, Option.bind_some]
theorem imTextOf (l : List DArticle) (id : Int) (hl : l.length ≤ maxLen) : F_impl_textOf l id = some (ft l id) := by
  unfold F_impl_textOf
  rw [imArticle l id hl, Option.bind_some]
  cases hf : l.findIdx? fun a => a.fId == id with
  | none => rw [fidx_none hf]; unfold ft; rw [find_none hf]; rfl
  | some i =>
    rw [fidx_some hf, decide_eq_true (by omega), cond_true]
    obtain ⟨x, e1, e2⟩ := find_at hf (fun x : DArticle => some x.fText)
    rw [e2]; unfold ft; rw [e1]; rfl
theorem ones_len {β : Type} {n : Nat} {g : Nat → List β} (h : ∀ i, (g i).length ≤ 1) : ((List.range n).flatMap g).length ≤ n := by
  induction n with
  | zero => simp
  | succ n ih =>
    rw [List.range_succ, List.flatMap_append, List.length_append]
    have := h n
    simp only [List.flatMap_cons, List.flatMap_nil, List.append_nil]
    omega
/-- the edits from one statute to another one -/
def diff (a b : List DArticle) : List DEdit := (List.range 99).flatMap fun i => edl ((i + 1 : Nat) : Int) (ft a ((i + 1 : Nat) : Int)) (ft b ((i + 1 : Nat) : Int))
theorem diff_len {a b : List DArticle} : (diff a b).length ≤ 99 := ones_len fun _ => edl_len _ _ _
theorem W100 {i : Nat} (h : i < 99) : IntKind.i64.wrap (((i + 1 : Nat) : Int) + 1) = ((i + 1 + 1 : Nat) : Int) := W_succ (n := 1000) (by omega) (by decide)
theorem spDiff (a b : List DArticle) (ha : a.length ≤ maxLen) (hb : b.length ≤ maxLen) : F_spec_l07Diff a b = some (diff a b) := by
  have := app_loop (n := 99) (b := 1) (F := fun f acc i => F_spec_l07Diff_l1 a b f acc (i + 1)) (fun i => edl ((i + 1 : Nat) : Int) (ft a ((i + 1 : Nat) : Int)) (ft b ((i + 1 : Nat) : Int))) some 0 (fun i _ => edl_len _ _ _) (fun f acc => ?_) (fun f acc i hi hacc => ?_) (m := 100) (acc := []) (by omega) (Nat.le_refl _)
  · exact this
  · show F_spec_l07Diff_l1 a b (f + 1) acc 100 = _
    rw [F_spec_l07Diff_l1.eq_2]; rfl
  · show F_spec_l07Diff_l1 a b (f + 1) acc ((i + 1 : Nat) : Int) = F_spec_l07Diff_l1 a b f _ ((i + 1 + 1 : Nat) : Int)
    rw [F_spec_l07Diff_l1.eq_2, decide_eq_true (show ((i + 1 : Nat) : Int) ≤ 99 by omega), cond_true, spFind a _ ha, Option.bind_some, spFind b _ hb, Option.bind_some, spStep, Option.bind_some, W100 hi, edl_eq]
    cases (stp ((i + 1 : Nat) : Int) (ft a ((i + 1 : Nat) : Int)) (ft b ((i + 1 : Nat) : Int))).fKind != 0 with
    | false => rw [cond_false, if_neg (by decide), List.append_nil]
    | true => rw [cond_true, if_pos rfl, app_ok (by simp; omega)]
theorem imDiff (a b : List DArticle) (ha : a.length ≤ maxLen) (hb : b.length ≤ maxLen) : F_impl_DiffStatutes_l1 a b 100 [] 1 = some (diff a b, true) := by
  have := app_loop (n := 99) (b := 1) (F := fun f acc i => F_impl_DiffStatutes_l1 a b f acc (i + 1)) (fun i => edl ((i + 1 : Nat) : Int) (ft a ((i + 1 : Nat) : Int)) (ft b ((i + 1 : Nat) : Int))) (fun r => some (r, true)) 0 (fun i _ => edl_len _ _ _) (fun f acc => ?_) (fun f acc i hi hacc => ?_) (m := 100) (acc := []) (by omega) (Nat.le_refl _)
  · exact this
  · show F_impl_DiffStatutes_l1 a b (f + 1) acc 100 = _
    rw [F_impl_DiffStatutes_l1.eq_2]; rfl
  · show F_impl_DiffStatutes_l1 a b (f + 1) acc ((i + 1 : Nat) : Int) = F_impl_DiffStatutes_l1 a b f _ ((i + 1 + 1 : Nat) : Int)
    rw [F_impl_DiffStatutes_l1.eq_2, decide_eq_true (show ((i + 1 : Nat) : Int) ≤ 99 by omega), cond_true, imTextOf a _ ha, Option.bind_some, imTextOf b _ hb, Option.bind_some, imStep, Option.bind_some, W100 hi, app_ok (by have := edl_len ((i + 1 : Nat) : Int) (ft a ((i + 1 : Nat) : Int)) (ft b ((i + 1 : Nat) : Int)); omega)]
theorem eqDiff (a b : List DArticle) (h1 : smT a) (h2 : smT b) : ∃ r, F_spec_DiffStatutes a b = some r ∧ F_impl_DiffStatutes a b = some r ∧ r.1.length ≤ 1048576 := by
  unfold F_spec_DiffStatutes F_impl_DiffStatutes
  rw [spStat a h1, imStat a h1, spStat b h2, imStat b h2, Option.bind_some, Option.bind_some]
  cases statOk a with
  | false => exact ⟨([], false), rfl, rfl, by simp⟩
  | true =>
    cases statOk b with
    | false => exact ⟨([], false), rfl, rfl, by simp⟩
    | true =>
      rw [spDiff a b h1.1 h2.1, show Int.toNat (99 - 1) + 2 = 100 from rfl, imDiff a b h1.1 h2.1]
      exact ⟨_, rfl, rfl, Nat.le_trans diff_len (by decide)⟩
/-! acts in force -/
def smAs (l : List DAct) : Prop := l.length ≤ maxLen ∧ ∀ a ∈ l, smA a
theorem acts_len {l : List DAct} (h : actsOk l = true) : l.length ≤ 8 := by
  unfold actsOk at h
  rw [Bool.and_eq_true, decide_eq_true_eq, decide_eq_true_eq] at h
  exact h.2
def forceC (l : List DAct) (day : Int) (i : Nat) : Bool := match l[i]? with
  | some a => decide (a.fFrom ≤ day) && decide (day < a.fUntil)
  | none => false
theorem forceC_at {l : List DAct} {day : Int} {i : Nat} (hi : i < l.length) : forceC l day i = (decide (l[i].fFrom ≤ day) && decide (day < l[i].fUntil)) := by
  unfold forceC
  rw [List.getElem?_eq_getElem hi]
theorem spForce (l : List DAct) (day : Int) (hl : l.length ≤ 8) : F_spec_l07Force l day = some (lst l.length (forceC l day)) := by
  refine st_loop (n := l.length) (F := F_spec_l07Force_l1 l day) (fun i => lst i (forceC l day)) (fun f => ?_) (fun i f hi => ?_) (m := l.length + 1) (by omega)
  · rw [F_spec_l07Force_l1.eq_2, dlt_f (by omega), cond_false]
  · rw [F_spec_l07Force_l1.eq_2, dlt_t hi, cond_true, idx_nat hi, idx_nat hi, W_succ hi (by unfold maxLen; omega), lst_succ]
    rw [forceC_at hi]
    have := lst_len (n := i) (p := forceC l day)
    cases decide (l[i].fFrom ≤ day) <;> cases decide (day < l[i].fUntil) <;> first | rfl | exact app_ok (l := lst i (forceC l day)) (m := [(i : Int)]) (k := fun _ => F_spec_l07Force_l1 l day f (lst i (forceC l day) ++ [(i : Int)]) ((i + 1 : Nat) : Int)) (by simp; omega)
theorem imForce (l : List DAct) (day : Int) (hl : l.length ≤ 8) : F_impl_inForce l day = some (lst l.length (forceC l day)) := by
  refine st_loop (n := l.length) (F := F_impl_inForce_l1 l day) (fun i => lst i (forceC l day)) (fun f => ?_) (fun i f hi => ?_) (m := l.length + 1) (by omega)
  · rw [F_impl_inForce_l1.eq_2, dlt_f (by omega), cond_false]
  · rw [F_impl_inForce_l1.eq_2, dlt_t hi, cond_true, idx_nat hi, W_succ hi (by unfold maxLen; omega), lst_succ]
    rw [forceC_at hi]
    have := lst_len (n := i) (p := forceC l day)
    cases decide (l[i].fFrom ≤ day) <;> cases decide (day < l[i].fUntil) <;> first | rfl | exact app_ok (l := lst i (forceC l day)) (m := [(i : Int)]) (k := fun _ => F_impl_inForce_l1 l day f (lst i (forceC l day) ++ [(i : Int)]) ((i + 1 : Nat) : Int)) (by simp; omega)
theorem eqForce (l : List DAct) (day : Int) (h : smAs l) : ∃ r, F_spec_ActsInForce l day = some r ∧ F_impl_ActsInForce l day = some r ∧ r.1.length ≤ 1048576 := by
  unfold F_spec_ActsInForce F_impl_ActsInForce F_spec_l07Day F_impl_isDate
  rw [spActs l h.1 h.2, imActs l h.1 h.2, spIn, imIn]
  dsimp only [Option.bind_some]
  cases ha : actsOk l with
  | false => exact ⟨([], false), rfl, rfl, by simp⟩
  | true =>
    cases within day 0 999 with
    | false => exact ⟨([], false), rfl, rfl, by simp⟩
    | true =>
      have hl := acts_len ha
      rw [spForce l day hl, imForce l day hl]
      have := lst_len (n := l.length) (p := forceC l day)
      exact ⟨_, rfl, rfl, by dsimp only; omega⟩
end Go.FX
