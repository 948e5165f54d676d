/- The plain lemmas on the sizes, the copies and the equality of the laws' types; no condition. Printed by a program of mine (puregen.py). -/
import Derived.Test.YthgmjhiccdjboaaDoorTaFns
namespace Go.FX
open Go Go.GL Go.RowKit
def ok_LArticle (x : LArticle) : Prop := InR x.fId ∧ x.fText.length ≤ maxLen
def bk_LArticle (x : LArticle) : Nat := x.fText.length + (0)
def to_LArticle (x : LArticle) : DArticle := ⟨x.fId, x.fText⟩
theorem sz_Article (a : LArticle) (hg : ok_LArticle a) (x : Int) (h0 : 0 ≤ x) (hx : x ≤ 1048576) : F_laws_szArticle a x = some (dec x (bk_LArticle a)) := by
  unfold F_laws_szArticle bk_LArticle
  refine sz_leaf_then (k := fun y => some y) h0 hx hg.2 (fun y0 h0_0 hx_0 => ?_)
  rw [dec_zero h0_0]
theorem sz_ArticleS (a : (List LArticle)) (hg : (a.length ≤ maxLen ∧ ∀ e0 ∈ a, ok_LArticle e0)) (x : Int) (h0 : 0 ≤ x) (hx : x ≤ 1048576) : F_laws_szArticleS a x = some (dec x ((a.length + (a.map bk_LArticle).sum))) :=
  szS_eq (F := F_laws_szArticleS_l1 a) bk_LArticle (fun _ _ _ => rfl) hg.1 (fun e he x h0 hx => sz_Article e (hg.2 e he) x h0 hx) x h0 hx
def sm_DArticle (_ : DArticle) : Prop := True
theorem to_Article (a : LArticle) (_ : bk_LArticle a ≤ 1048576) : F_laws_toArticle a = some ((to_LArticle a)) := rfl
theorem smto_Article (a : LArticle) (_ : bk_LArticle a ≤ 1048576) : sm_DArticle (to_LArticle a) := trivial
theorem to_ArticleS (a : (List LArticle)) (hb : (a.length + (a.map bk_LArticle).sum) ≤ 1048576) : F_laws_toArticleS a = some ((a.map to_LArticle)) :=
  toS_eq (F := F_laws_toArticleS_l1 a) to_LArticle (DArticle.mk 0 []) (fun _ _ _ => rfl) (Nat.le_trans (Nat.le_add_right _ _) hb) (fun e he => to_Article e (Nat.le_trans (Nat.le_trans (le_sum (w := bk_LArticle) he) (Nat.le_add_left _ _)) hb))
theorem smto_ArticleS (a : (List LArticle)) (hb : (a.length + (a.map bk_LArticle).sum) ≤ 1048576) : ((a.map to_LArticle).length ≤ maxLen ∧ ∀ e0 ∈ (a.map to_LArticle), sm_DArticle e0) := by
  refine ⟨?_, fun e he => ?_⟩
  · rw [List.length_map]; exact Nat.le_trans (Nat.le_trans (Nat.le_add_right _ _) hb) (by decide)
  · obtain ⟨c, hc, rfl⟩ := List.mem_map.1 he
    exact smto_Article c (Nat.le_trans (Nat.le_trans (le_sum (w := bk_LArticle) hc) (Nat.le_add_left _ _)) hb)
theorem ctle_ArticleS (a : (List LArticle)) : (a.map to_LArticle).length ≤ (a.length + (a.map bk_LArticle).sum) := by rw [List.length_map]; omega
theorem eq_Article (a b : DArticle) (_ : sm_DArticle a) : F_laws_eqArticle a b = some (decide (a = b)) := by
  obtain ⟨a0, a1⟩ := a
  obtain ⟨b0, b1⟩ := b
  unfold F_laws_eqArticle
  dsimp only
  by_cases h0 : a0 = b0
  · by_cases h1 : a1 = b1
    · rw [bne_f h0, cond_false, bne_f h1, cond_false]; simp [h0, h1]
    · rw [bne_f h0, cond_false, bne_t h1, cond_true]; simp [h1]
  · rw [bne_t h0, cond_true]; simp [h0]
theorem smc_Article (a : DArticle) (_ : 0 ≤ 1048576) : sm_DArticle a := trivial
theorem eq_ArticleS (a b : (List DArticle)) (hg : (a.length ≤ maxLen ∧ ∀ e0 ∈ a, sm_DArticle e0)) : F_laws_eqArticleS a b = some (decide (a = b)) :=
  eqS_eq (F := F_laws_eqArticleS_l1 a b) (fun _ _ => rfl) hg.1 (fun x hx y _ => eq_Article x y (hg.2 x hx))
theorem smc_ArticleS (a : (List DArticle)) (h : a.length ≤ 1048576) : (a.length ≤ maxLen ∧ ∀ e0 ∈ a, sm_DArticle e0) := ⟨Nat.le_trans h (by decide), fun _ _ => trivial⟩
def ok_LEdit (x : LEdit) : Prop := InR x.fKind ∧ InR x.fId ∧ x.fOld.length ≤ maxLen ∧ x.fNew.length ≤ maxLen
def bk_LEdit (x : LEdit) : Nat := x.fOld.length + (x.fNew.length + (0))
def to_LEdit (x : LEdit) : DEdit := ⟨x.fKind, x.fId, x.fOld, x.fNew⟩
theorem sz_Edit (a : LEdit) (hg : ok_LEdit a) (x : Int) (h0 : 0 ≤ x) (hx : x ≤ 1048576) : F_laws_szEdit a x = some (dec x (bk_LEdit a)) := by
  unfold F_laws_szEdit bk_LEdit
  refine sz_leaf_then (k := fun y => bif decide ((IntKind.i64.wrap (y - (a.fNew.length : Int))) < 0) then some (-1) else (some (IntKind.i64.wrap (y - (a.fNew.length : Int))))) h0 hx hg.2.2.1 (fun y0 h0_0 hx_0 => ?_)
  refine sz_leaf_then (k := fun y => some y) h0_0 hx_0 hg.2.2.2 (fun y1 h0_1 hx_1 => ?_)
  rw [dec_zero h0_1]
theorem sz_EditS (a : (List LEdit)) (hg : (a.length ≤ maxLen ∧ ∀ e0 ∈ a, ok_LEdit e0)) (x : Int) (h0 : 0 ≤ x) (hx : x ≤ 1048576) : F_laws_szEditS a x = some (dec x ((a.length + (a.map bk_LEdit).sum))) :=
  szS_eq (F := F_laws_szEditS_l1 a) bk_LEdit (fun _ _ _ => rfl) hg.1 (fun e he x h0 hx => sz_Edit e (hg.2 e he) x h0 hx) x h0 hx
def sm_DEdit (_ : DEdit) : Prop := True
theorem to_Edit (a : LEdit) (_ : bk_LEdit a ≤ 1048576) : F_laws_toEdit a = some ((to_LEdit a)) := rfl
theorem smto_Edit (a : LEdit) (_ : bk_LEdit a ≤ 1048576) : sm_DEdit (to_LEdit a) := trivial
theorem to_EditS (a : (List LEdit)) (hb : (a.length + (a.map bk_LEdit).sum) ≤ 1048576) : F_laws_toEditS a = some ((a.map to_LEdit)) :=
  toS_eq (F := F_laws_toEditS_l1 a) to_LEdit (DEdit.mk 0 0 [] []) (fun _ _ _ => rfl) (Nat.le_trans (Nat.le_add_right _ _) hb) (fun e he => to_Edit e (Nat.le_trans (Nat.le_trans (le_sum (w := bk_LEdit) he) (Nat.le_add_left _ _)) hb))
theorem smto_EditS (a : (List LEdit)) (hb : (a.length + (a.map bk_LEdit).sum) ≤ 1048576) : ((a.map to_LEdit).length ≤ maxLen ∧ ∀ e0 ∈ (a.map to_LEdit), sm_DEdit e0) := by
  refine ⟨?_, fun e he => ?_⟩
  · rw [List.length_map]; exact Nat.le_trans (Nat.le_trans (Nat.le_add_right _ _) hb) (by decide)
  · obtain ⟨c, hc, rfl⟩ := List.mem_map.1 he
    exact smto_Edit c (Nat.le_trans (Nat.le_trans (le_sum (w := bk_LEdit) hc) (Nat.le_add_left _ _)) hb)
theorem ctle_EditS (a : (List LEdit)) : (a.map to_LEdit).length ≤ (a.length + (a.map bk_LEdit).sum) := by rw [List.length_map]; omega
theorem eq_Edit (a b : DEdit) (_ : sm_DEdit a) : F_laws_eqEdit a b = some (decide (a = b)) := by
  obtain ⟨a0, a1, a2, a3⟩ := a
  obtain ⟨b0, b1, b2, b3⟩ := b
  unfold F_laws_eqEdit
  dsimp only
  by_cases h0 : a0 = b0
  · by_cases h1 : a1 = b1
    · by_cases h2 : a2 = b2
      · by_cases h3 : a3 = b3
        · rw [bne_f h0, cond_false, bne_f h1, cond_false, bne_f h2, cond_false, bne_f h3, cond_false]; simp [h0, h1, h2, h3]
        · rw [bne_f h0, cond_false, bne_f h1, cond_false, bne_f h2, cond_false, bne_t h3, cond_true]; simp [h3]
      · rw [bne_f h0, cond_false, bne_f h1, cond_false, bne_t h2, cond_true]; simp [h2]
    · rw [bne_f h0, cond_false, bne_t h1, cond_true]; simp [h1]
  · rw [bne_t h0, cond_true]; simp [h0]
theorem smc_Edit (a : DEdit) (_ : 0 ≤ 1048576) : sm_DEdit a := trivial
theorem eq_EditS (a b : (List DEdit)) (hg : (a.length ≤ maxLen ∧ ∀ e0 ∈ a, sm_DEdit e0)) : F_laws_eqEditS a b = some (decide (a = b)) :=
  eqS_eq (F := F_laws_eqEditS_l1 a b) (fun _ _ => rfl) hg.1 (fun x hx y _ => eq_Edit x y (hg.2 x hx))
theorem smc_EditS (a : (List DEdit)) (h : a.length ≤ 1048576) : (a.length ≤ maxLen ∧ ∀ e0 ∈ a, sm_DEdit e0) := ⟨Nat.le_trans h (by decide), fun _ _ => trivial⟩
end Go.FX
