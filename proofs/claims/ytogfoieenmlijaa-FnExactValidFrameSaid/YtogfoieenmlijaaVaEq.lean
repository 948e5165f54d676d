/- The plain lemmas on the sizes, the copies and the equality of the laws' types; no condition. Printed by a program of mine (puregen.py). -/
import Derived.Test.YtogfoieenmlijaaVaFns
namespace Go.FX
open Go Go.GL Go.RowKit
def ok_LArticle (x : LArticle) : Prop := InR x.fId ∧ x.fText.length ≤ maxLen
def bk_LArticle (x : LArticle) : Nat := x.fText.length + (0)
def to_LArticle (x : LArticle) : DArticle := ⟨x.fId, x.fText⟩
theorem sz_Article (a : LArticle) (hg : ok_LArticle a) (x : Int) (h0 : 0 ≤ x) (hx : x ≤ 1048576) : F_laws_szArticle a x = some (dec x (bk_LArticle a)) := by
  unfold F_laws_szArticle bk_LArticle
  refine sz_leaf_then (k := fun y => some y) h0 hx hg.2 (fun y0 h0_0 hx_0 => ?_)
  rw [dec_zero h0_0]
theorem sz_ArticleS (a : (List LArticle)) (hg : (a.length ≤ maxLen ∧ ∀ e0 ∈ a, ok_LArticle e0)) (x : Int) (h0 : 0 ≤ x) (hx : x ≤ 1048576) : F_laws_szArticleS a x = some (dec x ((a.length + (a.map bk_LArticle).sum))) :=
  szS_eq (F := F_laws_szArticleS_l1 a) bk_LArticle (fun _ _ _ => rfl) hg.1 (fun e he x h0 hx => sz_Article e (hg.2 e he) x h0 hx) x h0 hx
def sm_DArticle (_ : DArticle) : Prop := True
theorem to_Article (a : LArticle) (_ : bk_LArticle a ≤ 1048576) : F_laws_toArticle a = some ((to_LArticle a)) := rfl
theorem smto_Article (a : LArticle) (_ : bk_LArticle a ≤ 1048576) : sm_DArticle (to_LArticle a) := trivial
theorem to_ArticleS (a : (List LArticle)) (hb : (a.length + (a.map bk_LArticle).sum) ≤ 1048576) : F_laws_toArticleS a = some ((a.map to_LArticle)) :=
  toS_eq (F := F_laws_toArticleS_l1 a) to_LArticle (DArticle.mk 0 []) (fun _ _ _ => rfl) (Nat.le_trans (Nat.le_add_right _ _) hb) (fun e he => to_Article e (Nat.le_trans (Nat.le_trans (le_sum (w := bk_LArticle) he) (Nat.le_add_left _ _)) hb))
theorem smto_ArticleS (a : (List LArticle)) (hb : (a.length + (a.map bk_LArticle).sum) ≤ 1048576) : ((a.map to_LArticle).length ≤ maxLen ∧ ∀ e0 ∈ (a.map to_LArticle), sm_DArticle e0) := by
  refine ⟨?_, fun e he => ?_⟩
  · rw [List.length_map]; exact Nat.le_trans (Nat.le_trans (Nat.le_add_right _ _) hb) (by decide)
  · obtain ⟨c, hc, rfl⟩ := List.mem_map.1 he
    exact smto_Article c (Nat.le_trans (Nat.le_trans (le_sum (w := bk_LArticle) hc) (Nat.le_add_left _ _)) hb)
theorem eq_Article (a b : DArticle) (_ : sm_DArticle a) : F_laws_eqArticle a b = some (decide (a = b)) := by
  obtain ⟨a0, a1⟩ := a
  obtain ⟨b0, b1⟩ := b
  unfold F_laws_eqArticle
  dsimp only
  by_cases h0 : a0 = b0
  · by_cases h1 : a1 = b1
    · rw [bne_f h0, cond_false, bne_f h1, cond_false]; simp [h0, h1]
    · rw [bne_f h0, cond_false, bne_t h1, cond_true]; simp [h1]
  · rw [bne_t h0, cond_true]; simp [h0]
theorem eq_ArticleS (a b : (List DArticle)) (hg : (a.length ≤ maxLen ∧ ∀ e0 ∈ a, sm_DArticle e0)) : F_laws_eqArticleS a b = some (decide (a = b)) :=
  eqS_eq (F := F_laws_eqArticleS_l1 a b) (fun _ _ => rfl) hg.1 (fun x hx y _ => eq_Article x y (hg.2 x hx))
def ok_LEdit (x : LEdit) : Prop := InR x.fKind ∧ InR x.fId ∧ x.fOld.length ≤ maxLen ∧ x.fNew.length ≤ maxLen
def bk_LEdit (x : LEdit) : Nat := x.fOld.length + (x.fNew.length + (0))
def to_LEdit (x : LEdit) : DEdit := ⟨x.fKind, x.fId, x.fOld, x.fNew⟩
theorem sz_Edit (a : LEdit) (hg : ok_LEdit a) (x : Int) (h0 : 0 ≤ x) (hx : x ≤ 1048576) : F_laws_szEdit a x = some (dec x (bk_LEdit a)) := by
  unfold F_laws_szEdit bk_LEdit
  refine sz_leaf_then (k := fun y => bif decide ((IntKind.i64.wrap (y - (a.fNew.length : Int))) < 0) then some (-1) else (some (IntKind.i64.wrap (y - (a.fNew.length : Int))))) h0 hx hg.2.2.1 (fun y0 h0_0 hx_0 => ?_)
  refine sz_leaf_then (k := fun y => some y) h0_0 hx_0 hg.2.2.2 (fun y1 h0_1 hx_1 => ?_)
  rw [dec_zero h0_1]
theorem sz_EditS (a : (List LEdit)) (hg : (a.length ≤ maxLen ∧ ∀ e0 ∈ a, ok_LEdit e0)) (x : Int) (h0 : 0 ≤ x) (hx : x ≤ 1048576) : F_laws_szEditS a x = some (dec x ((a.length + (a.map bk_LEdit).sum))) :=
  szS_eq (F := F_laws_szEditS_l1 a) bk_LEdit (fun _ _ _ => rfl) hg.1 (fun e he x h0 hx => sz_Edit e (hg.2 e he) x h0 hx) x h0 hx
def sm_DEdit (_ : DEdit) : Prop := True
theorem to_Edit (a : LEdit) (_ : bk_LEdit a ≤ 1048576) : F_laws_toEdit a = some ((to_LEdit a)) := rfl
theorem smto_Edit (a : LEdit) (_ : bk_LEdit a ≤ 1048576) : sm_DEdit (to_LEdit a) := trivial
theorem to_EditS (a : (List LEdit)) (hb : (a.length + (a.map bk_LEdit).sum) ≤ 1048576) : F_laws_toEditS a = some ((a.map to_LEdit)) :=
  toS_eq (F := F_laws_toEditS_l1 a) to_LEdit (DEdit.mk 0 0 [] []) (fun _ _ _ => rfl) (Nat.le_trans (Nat.le_add_right _ _) hb) (fun e he => to_Edit e (Nat.le_trans (Nat.le_trans (le_sum (w := bk_LEdit) he) (Nat.le_add_left _ _)) hb))
theorem smto_EditS (a : (List LEdit)) (hb : (a.length + (a.map bk_LEdit).sum) ≤ 1048576) : ((a.map to_LEdit).length ≤ maxLen ∧ ∀ e0 ∈ (a.map to_LEdit), sm_DEdit e0) := by
  refine ⟨?_, fun e he => ?_⟩
  · rw [List.length_map]; exact Nat.le_trans (Nat.le_trans (Nat.le_add_right _ _) hb) (by decide)
  · obtain ⟨c, hc, rfl⟩ := List.mem_map.1 he
    exact smto_Edit c (Nat.le_trans (Nat.le_trans (le_sum (w := bk_LEdit) hc) (Nat.le_add_left _ _)) hb)
theorem eq_Edit (a b : DEdit) (_ : sm_DEdit a) : F_laws_eqEdit a b = some (decide (a = b)) := by
  obtain ⟨a0, a1, a2, a3⟩ := a
  obtain ⟨b0, b1, b2, b3⟩ := b
  unfold F_laws_eqEdit
  dsimp only
  by_cases h0 : a0 = b0
  · by_cases h1 : a1 = b1
    · by_cases h2 : a2 = b2
      · by_cases h3 : a3 = b3
        · rw [bne_f h0, cond_false, bne_f h1, cond_false, bne_f h2, cond_false, bne_f h3, cond_false]; simp [h0, h1, h2, h3]
        · rw [bne_f h0, cond_false, bne_f h1, cond_false, bne_f h2, cond_false, bne_t h3, cond_true]; simp [h3]
      · rw [bne_f h0, cond_false, bne_f h1, cond_false, bne_t h2, cond_true]; simp [h2]
    · rw [bne_f h0, cond_false, bne_t h1, cond_true]; simp [h1]
  · rw [bne_t h0, cond_true]; simp [h0]
theorem eq_EditS (a b : (List DEdit)) (hg : (a.length ≤ maxLen ∧ ∀ e0 ∈ a, sm_DEdit e0)) : F_laws_eqEditS a b = some (decide (a = b)) :=
  eqS_eq (F := F_laws_eqEditS_l1 a b) (fun _ _ => rfl) hg.1 (fun x hx y _ => eq_Edit x y (hg.2 x hx))
theorem sz_Int64S (a : (List Int)) (hg : (a.length ≤ maxLen ∧ ∀ e0 ∈ a, InR e0)) (x : Int) (h0 : 0 ≤ x) (hx : x ≤ 1048576) : F_laws_szInt64S a x = some (dec x (a.length)) := sz_leaf h0 hx hg.1
theorem sz_Int64SS (a : (List (List Int))) (hg : (a.length ≤ maxLen ∧ ∀ e0 ∈ a, (e0.length ≤ maxLen ∧ ∀ e1 ∈ e0, InR e1))) (x : Int) (h0 : 0 ≤ x) (hx : x ≤ 1048576) : F_laws_szInt64SS a x = some (dec x ((a.length + (a.map (fun e : (List Int) => e.length)).sum))) :=
  szS_eq (F := F_laws_szInt64SS_l1 a) (fun e : (List Int) => e.length) (fun _ _ _ => rfl) hg.1 (fun e he x h0 hx => sz_Int64S e (hg.2 e he) x h0 hx) x h0 hx
def ok_LFrame (x : LFrame) : Prop := InR x.fCount ∧ (x.fAttacks.length ≤ maxLen ∧ ∀ e0 ∈ x.fAttacks, (e0.length ≤ maxLen ∧ ∀ e1 ∈ e0, InR e1))
def bk_LFrame (x : LFrame) : Nat := (x.fAttacks.length + (x.fAttacks.map (fun e : (List Int) => e.length)).sum) + (0)
def to_LFrame (x : LFrame) : DFrame := ⟨x.fCount, (x.fAttacks.map (fun e : (List Int) => e))⟩
theorem sz_Frame (a : LFrame) (hg : ok_LFrame a) (x : Int) (h0 : 0 ≤ x) (hx : x ≤ 1048576) : F_laws_szFrame a x = some (dec x (bk_LFrame a)) := by
  unfold F_laws_szFrame bk_LFrame
  rw [sz_Int64SS _ hg.2 x h0 hx, Option.bind_some]
  refine sz_then (k := fun y => some y) h0 hx (fun y0 h0_0 hx_0 => ?_)
  rw [dec_zero h0_0]
theorem to_Int64S (a : (List Int)) (hb : a.length ≤ 1048576) : F_laws_toInt64S a = some (a) := by
  have h := toS_eq (l := a) (F := F_laws_toInt64S_l1 a) (T := some) (fun e => e) 0 (fun _ _ _ => rfl) hb (fun _ _ => rfl)
  rw [List.map_id'] at h
  exact h
theorem smto_Int64S (a : (List Int)) (hb : a.length ≤ 1048576) : (a.length ≤ maxLen ∧ ∀ e0 ∈ a, True) := ⟨Nat.le_trans hb (by decide), fun _ _ => trivial⟩
theorem to_Int64SS (a : (List (List Int))) (hb : (a.length + (a.map (fun e : (List Int) => e.length)).sum) ≤ 1048576) : F_laws_toInt64SS a = some ((a.map (fun e : (List Int) => e))) :=
  toS_eq (F := F_laws_toInt64SS_l1 a) (fun e : (List Int) => e) [] (fun _ _ _ => rfl) (Nat.le_trans (Nat.le_add_right _ _) hb) (fun e he => to_Int64S e (Nat.le_trans (Nat.le_trans (le_sum (w := (fun e : (List Int) => e.length)) he) (Nat.le_add_left _ _)) hb))
theorem smto_Int64SS (a : (List (List Int))) (hb : (a.length + (a.map (fun e : (List Int) => e.length)).sum) ≤ 1048576) : ((a.map (fun e : (List Int) => e)).length ≤ maxLen ∧ ∀ e0 ∈ (a.map (fun e : (List Int) => e)), (e0.length ≤ maxLen ∧ ∀ e1 ∈ e0, True)) := by
  refine ⟨?_, fun e he => ?_⟩
  · rw [List.length_map]; exact Nat.le_trans (Nat.le_trans (Nat.le_add_right _ _) hb) (by decide)
  · obtain ⟨c, hc, rfl⟩ := List.mem_map.1 he
    exact smto_Int64S c (Nat.le_trans (Nat.le_trans (le_sum (w := (fun e : (List Int) => e.length)) hc) (Nat.le_add_left _ _)) hb)
def sm_DFrame (x : DFrame) : Prop := (x.fAttacks.length ≤ maxLen ∧ ∀ e0 ∈ x.fAttacks, (e0.length ≤ maxLen ∧ ∀ e1 ∈ e0, True))
theorem to_Frame (a : LFrame) (hb : bk_LFrame a ≤ 1048576) : F_laws_toFrame a = some ((to_LFrame a)) := by
  unfold bk_LFrame at hb
  unfold F_laws_toFrame
  simp only [to_Int64SS a.fAttacks (by omega), Option.bind_some]
  rfl
theorem smto_Frame (a : LFrame) (hb : bk_LFrame a ≤ 1048576) : sm_DFrame (to_LFrame a) := by
  unfold bk_LFrame at hb
  exact smto_Int64SS a.fAttacks (by omega)
theorem eq_Int64S (a b : (List Int)) (hg : (a.length ≤ maxLen ∧ ∀ e0 ∈ a, True)) : F_laws_eqInt64S a b = some (decide (a = b)) :=
  eqS_eq (F := F_laws_eqInt64S_l1 a b) (E := fun x y => some (x == y)) (fun _ _ => rfl) hg.1 (fun x _ y _ => by rw [beq_dec])
theorem eq_Int64SS (a b : (List (List Int))) (hg : (a.length ≤ maxLen ∧ ∀ e0 ∈ a, (e0.length ≤ maxLen ∧ ∀ e1 ∈ e0, True))) : F_laws_eqInt64SS a b = some (decide (a = b)) :=
  eqS_eq (F := F_laws_eqInt64SS_l1 a b) (fun _ _ => rfl) hg.1 (fun x hx y _ => eq_Int64S x y (hg.2 x hx))
theorem eq_Frame (a b : DFrame) (hg : sm_DFrame a) : F_laws_eqFrame a b = some (decide (a = b)) := by
  obtain ⟨a0, a1⟩ := a
  obtain ⟨b0, b1⟩ := b
  unfold sm_DFrame at hg
  unfold F_laws_eqFrame
  simp only [eq_Int64SS a1 b1 hg, Option.bind_some]
  by_cases h0 : a0 = b0
  · by_cases h1 : a1 = b1
    · rw [bne_f h0, cond_false, decide_eq_true h1, Bool.not_true, cond_false]; simp [h0, h1]
    · rw [bne_f h0, cond_false, decide_eq_false h1, Bool.not_false, cond_true]; simp [h1]
  · rw [bne_t h0, cond_true]; simp [h0]
def ok_LAct (x : LAct) : Prop := InR x.fFrom ∧ InR x.fUntil ∧ (x.fPatch.length ≤ maxLen ∧ ∀ e0 ∈ x.fPatch, ok_LEdit e0)
def bk_LAct (x : LAct) : Nat := (x.fPatch.length + (x.fPatch.map bk_LEdit).sum) + (0)
def to_LAct (x : LAct) : DAct := ⟨x.fFrom, x.fUntil, (x.fPatch.map to_LEdit)⟩
theorem sz_Act (a : LAct) (hg : ok_LAct a) (x : Int) (h0 : 0 ≤ x) (hx : x ≤ 1048576) : F_laws_szAct a x = some (dec x (bk_LAct a)) := by
  unfold F_laws_szAct bk_LAct
  rw [sz_EditS _ hg.2.2 x h0 hx, Option.bind_some]
  refine sz_then (k := fun y => some y) h0 hx (fun y0 h0_0 hx_0 => ?_)
  rw [dec_zero h0_0]
theorem sz_ActS (a : (List LAct)) (hg : (a.length ≤ maxLen ∧ ∀ e0 ∈ a, ok_LAct e0)) (x : Int) (h0 : 0 ≤ x) (hx : x ≤ 1048576) : F_laws_szActS a x = some (dec x ((a.length + (a.map bk_LAct).sum))) :=
  szS_eq (F := F_laws_szActS_l1 a) bk_LAct (fun _ _ _ => rfl) hg.1 (fun e he x h0 hx => sz_Act e (hg.2 e he) x h0 hx) x h0 hx
def sm_DAct (x : DAct) : Prop := (x.fPatch.length ≤ maxLen ∧ ∀ e0 ∈ x.fPatch, sm_DEdit e0)
theorem to_Act (a : LAct) (hb : bk_LAct a ≤ 1048576) : F_laws_toAct a = some ((to_LAct a)) := by
  unfold bk_LAct at hb
  unfold F_laws_toAct
  simp only [to_EditS a.fPatch (by omega), Option.bind_some]
  rfl
theorem smto_Act (a : LAct) (hb : bk_LAct a ≤ 1048576) : sm_DAct (to_LAct a) := by
  unfold bk_LAct at hb
  exact smto_EditS a.fPatch (by omega)
theorem to_ActS (a : (List LAct)) (hb : (a.length + (a.map bk_LAct).sum) ≤ 1048576) : F_laws_toActS a = some ((a.map to_LAct)) :=
  toS_eq (F := F_laws_toActS_l1 a) to_LAct (DAct.mk 0 0 []) (fun _ _ _ => rfl) (Nat.le_trans (Nat.le_add_right _ _) hb) (fun e he => to_Act e (Nat.le_trans (Nat.le_trans (le_sum (w := bk_LAct) he) (Nat.le_add_left _ _)) hb))
theorem smto_ActS (a : (List LAct)) (hb : (a.length + (a.map bk_LAct).sum) ≤ 1048576) : ((a.map to_LAct).length ≤ maxLen ∧ ∀ e0 ∈ (a.map to_LAct), sm_DAct e0) := by
  refine ⟨?_, fun e he => ?_⟩
  · rw [List.length_map]; exact Nat.le_trans (Nat.le_trans (Nat.le_add_right _ _) hb) (by decide)
  · obtain ⟨c, hc, rfl⟩ := List.mem_map.1 he
    exact smto_Act c (Nat.le_trans (Nat.le_trans (le_sum (w := bk_LAct) hc) (Nat.le_add_left _ _)) hb)
theorem eq_Act (a b : DAct) (hg : sm_DAct a) : F_laws_eqAct a b = some (decide (a = b)) := by
  obtain ⟨a0, a1, a2⟩ := a
  obtain ⟨b0, b1, b2⟩ := b
  unfold sm_DAct at hg
  unfold F_laws_eqAct
  simp only [eq_EditS a2 b2 hg, Option.bind_some]
  by_cases h0 : a0 = b0
  · by_cases h1 : a1 = b1
    · by_cases h2 : a2 = b2
      · rw [bne_f h0, cond_false, bne_f h1, cond_false, decide_eq_true h2, Bool.not_true, cond_false]; simp [h0, h1, h2]
      · rw [bne_f h0, cond_false, bne_f h1, cond_false, decide_eq_false h2, Bool.not_false, cond_true]; simp [h2]
    · rw [bne_f h0, cond_false, bne_t h1, cond_true]; simp [h1]
  · rw [bne_t h0, cond_true]; simp [h0]
theorem eq_ActS (a b : (List DAct)) (hg : (a.length ≤ maxLen ∧ ∀ e0 ∈ a, sm_DAct e0)) : F_laws_eqActS a b = some (decide (a = b)) :=
  eqS_eq (F := F_laws_eqActS_l1 a b) (fun _ _ => rfl) hg.1 (fun x hx y _ => eq_Act x y (hg.2 x hx))
end Go.FX
