/- The plain lemmas on the sizes, the copies and the equality of the laws' types; no condition. Printed by a program of mine (puregen.py). -/
import Derived.Test.YtbmeejcmbnjncaaSgFns
namespace Go.FX
open Go Go.GL Go.RowKit
def ok_LArticle (x : LArticle) : Prop := InR x.fId ∧ x.fText.length ≤ maxLen
def bk_LArticle (x : LArticle) : Nat := x.fText.length + (0)
def to_LArticle (x : LArticle) : DArticle := ⟨x.fId, x.fText⟩
theorem sz_Article (a : LArticle) (hg : ok_LArticle a) (x : Int) (h0 : 0 ≤ x) (hx : x ≤ 1048576) : F_laws_szArticle a x = some (dec x (bk_LArticle a)) := by
  unfold F_laws_szArticle bk_LArticle
  refine sz_leaf_then (k := fun y => some y) h0 hx hg.2 (fun y0 h0_0 hx_0 => ?_)
  rw [dec_zero h0_0]
theorem sz_ArticleS (a : (List LArticle)) (hg : (a.length ≤ maxLen ∧ ∀ e0 ∈ a, ok_LArticle e0)) (x : Int) (h0 : 0 ≤ x) (hx : x ≤ 1048576) : F_laws_szArticleS a x = some (dec x ((a.length + (a.map bk_LArticle).sum))) :=
  szS_eq (F := F_laws_szArticleS_l1 a) bk_LArticle (fun _ _ _ => rfl) hg.1 (fun e he x h0 hx => sz_Article e (hg.2 e he) x h0 hx) x h0 hx
def ok_LEdit (x : LEdit) : Prop := InR x.fKind ∧ InR x.fId ∧ x.fOld.length ≤ maxLen ∧ x.fNew.length ≤ maxLen
def bk_LEdit (x : LEdit) : Nat := x.fOld.length + (x.fNew.length + (0))
def to_LEdit (x : LEdit) : DEdit := ⟨x.fKind, x.fId, x.fOld, x.fNew⟩
theorem sz_Edit (a : LEdit) (hg : ok_LEdit a) (x : Int) (h0 : 0 ≤ x) (hx : x ≤ 1048576) : F_laws_szEdit a x = some (dec x (bk_LEdit a)) := by
  unfold F_laws_szEdit bk_LEdit
  refine sz_leaf_then (k := fun y => bif decide ((IntKind.i64.wrap (y - (a.fNew.length : Int))) < 0) then some (-1) else (some (IntKind.i64.wrap (y - (a.fNew.length : Int))))) h0 hx hg.2.2.1 (fun y0 h0_0 hx_0 => ?_)
  refine sz_leaf_then (k := fun y => some y) h0_0 hx_0 hg.2.2.2 (fun y1 h0_1 hx_1 => ?_)
  rw [dec_zero h0_1]
theorem sz_EditS (a : (List LEdit)) (hg : (a.length ≤ maxLen ∧ ∀ e0 ∈ a, ok_LEdit e0)) (x : Int) (h0 : 0 ≤ x) (hx : x ≤ 1048576) : F_laws_szEditS a x = some (dec x ((a.length + (a.map bk_LEdit).sum))) :=
  szS_eq (F := F_laws_szEditS_l1 a) bk_LEdit (fun _ _ _ => rfl) hg.1 (fun e he x h0 hx => sz_Edit e (hg.2 e he) x h0 hx) x h0 hx
def ok_LAct (x : LAct) : Prop := InR x.fFrom ∧ InR x.fUntil ∧ (x.fPatch.length ≤ maxLen ∧ ∀ e0 ∈ x.fPatch, ok_LEdit e0)
def bk_LAct (x : LAct) : Nat := (x.fPatch.length + (x.fPatch.map bk_LEdit).sum) + (0)
def to_LAct (x : LAct) : DAct := ⟨x.fFrom, x.fUntil, (x.fPatch.map to_LEdit)⟩
theorem sz_Act (a : LAct) (hg : ok_LAct a) (x : Int) (h0 : 0 ≤ x) (hx : x ≤ 1048576) : F_laws_szAct a x = some (dec x (bk_LAct a)) := by
  unfold F_laws_szAct bk_LAct
  rw [sz_EditS _ hg.2.2 x h0 hx, Option.bind_some]
  refine sz_then (k := fun y => some y) h0 hx (fun y0 h0_0 hx_0 => ?_)
  rw [dec_zero h0_0]
theorem sz_ActS (a : (List LAct)) (hg : (a.length ≤ maxLen ∧ ∀ e0 ∈ a, ok_LAct e0)) (x : Int) (h0 : 0 ≤ x) (hx : x ≤ 1048576) : F_laws_szActS a x = some (dec x ((a.length + (a.map bk_LAct).sum))) :=
  szS_eq (F := F_laws_szActS_l1 a) bk_LAct (fun _ _ _ => rfl) hg.1 (fun e he x h0 hx => sz_Act e (hg.2 e he) x h0 hx) x h0 hx
def sm_DArticle (_ : DArticle) : Prop := True
theorem to_Article (a : LArticle) (_ : bk_LArticle a ≤ 1048576) : F_laws_toArticle a = some ((to_LArticle a)) := rfl
theorem smto_Article (a : LArticle) (_ : bk_LArticle a ≤ 1048576) : sm_DArticle (to_LArticle a) := trivial
theorem to_ArticleS (a : (List LArticle)) (hb : (a.length + (a.map bk_LArticle).sum) ≤ 1048576) : F_laws_toArticleS a = some ((a.map to_LArticle)) :=
  toS_eq (F := F_laws_toArticleS_l1 a) to_LArticle (DArticle.mk 0 []) (fun _ _ _ => rfl) (Nat.le_trans (Nat.le_add_right _ _) hb) (fun e he => to_Article e (Nat.le_trans (Nat.le_trans (le_sum (w := bk_LArticle) he) (Nat.le_add_left _ _)) hb))
theorem smto_ArticleS (a : (List LArticle)) (hb : (a.length + (a.map bk_LArticle).sum) ≤ 1048576) : ((a.map to_LArticle).length ≤ maxLen ∧ ∀ e0 ∈ (a.map to_LArticle), sm_DArticle e0) := by
  refine ⟨?_, fun e he => ?_⟩
  · rw [List.length_map]; exact Nat.le_trans (Nat.le_trans (Nat.le_add_right _ _) hb) (by decide)
  · obtain ⟨c, hc, rfl⟩ := List.mem_map.1 he
    exact smto_Article c (Nat.le_trans (Nat.le_trans (le_sum (w := bk_LArticle) hc) (Nat.le_add_left _ _)) hb)
theorem ctle_ArticleS (a : (List LArticle)) : (a.map to_LArticle).length ≤ (a.length + (a.map bk_LArticle).sum) := by rw [List.length_map]; omega
def sm_DEdit (_ : DEdit) : Prop := True
theorem to_Edit (a : LEdit) (_ : bk_LEdit a ≤ 1048576) : F_laws_toEdit a = some ((to_LEdit a)) := rfl
theorem smto_Edit (a : LEdit) (_ : bk_LEdit a ≤ 1048576) : sm_DEdit (to_LEdit a) := trivial
theorem to_EditS (a : (List LEdit)) (hb : (a.length + (a.map bk_LEdit).sum) ≤ 1048576) : F_laws_toEditS a = some ((a.map to_LEdit)) :=
  toS_eq (F := F_laws_toEditS_l1 a) to_LEdit (DEdit.mk 0 0 [] []) (fun _ _ _ => rfl) (Nat.le_trans (Nat.le_add_right _ _) hb) (fun e he => to_Edit e (Nat.le_trans (Nat.le_trans (le_sum (w := bk_LEdit) he) (Nat.le_add_left _ _)) hb))
theorem smto_EditS (a : (List LEdit)) (hb : (a.length + (a.map bk_LEdit).sum) ≤ 1048576) : ((a.map to_LEdit).length ≤ maxLen ∧ ∀ e0 ∈ (a.map to_LEdit), sm_DEdit e0) := by
  refine ⟨?_, fun e he => ?_⟩
  · rw [List.length_map]; exact Nat.le_trans (Nat.le_trans (Nat.le_add_right _ _) hb) (by decide)
  · obtain ⟨c, hc, rfl⟩ := List.mem_map.1 he
    exact smto_Edit c (Nat.le_trans (Nat.le_trans (le_sum (w := bk_LEdit) hc) (Nat.le_add_left _ _)) hb)
theorem ctle_EditS (a : (List LEdit)) : (a.map to_LEdit).length ≤ (a.length + (a.map bk_LEdit).sum) := by rw [List.length_map]; omega
def sm_DAct (x : DAct) : Prop := (x.fPatch.length ≤ maxLen ∧ ∀ e0 ∈ x.fPatch, sm_DEdit e0)
theorem to_Act (a : LAct) (hb : bk_LAct a ≤ 1048576) : F_laws_toAct a = some ((to_LAct a)) := by
  unfold bk_LAct at hb
  unfold F_laws_toAct
  simp only [to_EditS a.fPatch (by omega), Option.bind_some]
  rfl
theorem smto_Act (a : LAct) (hb : bk_LAct a ≤ 1048576) : sm_DAct (to_LAct a) := by
  unfold bk_LAct at hb
  exact smto_EditS a.fPatch (by omega)
theorem ctle_Act (a : LAct) : ((to_LAct a).fPatch.length) ≤ bk_LAct a := by
  have h0 := ctle_EditS a.fPatch
  unfold bk_LAct
  dsimp only [to_LAct]
  omega
theorem to_ActS (a : (List LAct)) (hb : (a.length + (a.map bk_LAct).sum) ≤ 1048576) : F_laws_toActS a = some ((a.map to_LAct)) :=
  toS_eq (F := F_laws_toActS_l1 a) to_LAct (DAct.mk 0 0 []) (fun _ _ _ => rfl) (Nat.le_trans (Nat.le_add_right _ _) hb) (fun e he => to_Act e (Nat.le_trans (Nat.le_trans (le_sum (w := bk_LAct) he) (Nat.le_add_left _ _)) hb))
theorem smto_ActS (a : (List LAct)) (hb : (a.length + (a.map bk_LAct).sum) ≤ 1048576) : ((a.map to_LAct).length ≤ maxLen ∧ ∀ e0 ∈ (a.map to_LAct), sm_DAct e0) := by
  refine ⟨?_, fun e he => ?_⟩
  · rw [List.length_map]; exact Nat.le_trans (Nat.le_trans (Nat.le_add_right _ _) hb) (by decide)
  · obtain ⟨c, hc, rfl⟩ := List.mem_map.1 he
    exact smto_Act c (Nat.le_trans (Nat.le_trans (le_sum (w := bk_LAct) hc) (Nat.le_add_left _ _)) hb)
theorem ctle_ActS (a : (List LAct)) : ((a.map to_LAct).length + ((a.map to_LAct).map (fun e : DAct => (e.fPatch.length))).sum) ≤ (a.length + (a.map bk_LAct).sum) := by
  rw [List.length_map, List.map_map]
  exact Nat.add_le_add_left (sum_le (fun e => ctle_Act e)) _
theorem eq_Int64S (a b : (List Int)) (hg : (a.length ≤ maxLen ∧ ∀ e0 ∈ a, True)) : F_laws_eqInt64S a b = some (decide (a = b)) :=
  eqS_eq (F := F_laws_eqInt64S_l1 a b) (E := fun x y => some (x == y)) (fun _ _ => rfl) hg.1 (fun x _ y _ => by rw [beq_dec])
theorem smc_Int64S (a : (List Int)) (h : a.length ≤ 1048576) : (a.length ≤ maxLen ∧ ∀ e0 ∈ a, True) := ⟨Nat.le_trans h (by decide), fun _ _ => trivial⟩
theorem eq_Article (a b : DArticle) (_ : sm_DArticle a) : F_laws_eqArticle a b = some (decide (a = b)) := by
  obtain ⟨a0, a1⟩ := a
  obtain ⟨b0, b1⟩ := b
  unfold F_laws_eqArticle
  dsimp only
  by_cases h0 : a0 = b0
  · by_cases h1 : a1 = b1
    · rw [bne_f h0, cond_false, bne_f h1, cond_false]; simp [h0, h1]
    · rw [bne_f h0, cond_false, bne_t h1, cond_true]; simp [h1]
  · rw [bne_t h0, cond_true]; simp [h0]
theorem smc_Article (a : DArticle) (_ : 0 ≤ 1048576) : sm_DArticle a := trivial
theorem eq_ArticleS (a b : (List DArticle)) (hg : (a.length ≤ maxLen ∧ ∀ e0 ∈ a, sm_DArticle e0)) : F_laws_eqArticleS a b = some (decide (a = b)) :=
  eqS_eq (F := F_laws_eqArticleS_l1 a b) (fun _ _ => rfl) hg.1 (fun x hx y _ => eq_Article x y (hg.2 x hx))
theorem smc_ArticleS (a : (List DArticle)) (h : a.length ≤ 1048576) : (a.length ≤ maxLen ∧ ∀ e0 ∈ a, sm_DArticle e0) := ⟨Nat.le_trans h (by decide), fun _ _ => trivial⟩
theorem eq_Edit (a b : DEdit) (_ : sm_DEdit a) : F_laws_eqEdit a b = some (decide (a = b)) := by
  obtain ⟨a0, a1, a2, a3⟩ := a
  obtain ⟨b0, b1, b2, b3⟩ := b
  unfold F_laws_eqEdit
  dsimp only
  by_cases h0 : a0 = b0
  · by_cases h1 : a1 = b1
    · by_cases h2 : a2 = b2
      · by_cases h3 : a3 = b3
        · rw [bne_f h0, cond_false, bne_f h1, cond_false, bne_f h2, cond_false, bne_f h3, cond_false]; simp [h0, h1, h2, h3]
        · rw [bne_f h0, cond_false, bne_f h1, cond_false, bne_f h2, cond_false, bne_t h3, cond_true]; simp [h3]
      · rw [bne_f h0, cond_false, bne_f h1, cond_false, bne_t h2, cond_true]; simp [h2]
    · rw [bne_f h0, cond_false, bne_t h1, cond_true]; simp [h1]
  · rw [bne_t h0, cond_true]; simp [h0]
theorem smc_Edit (a : DEdit) (_ : 0 ≤ 1048576) : sm_DEdit a := trivial
theorem eq_EditS (a b : (List DEdit)) (hg : (a.length ≤ maxLen ∧ ∀ e0 ∈ a, sm_DEdit e0)) : F_laws_eqEditS a b = some (decide (a = b)) :=
  eqS_eq (F := F_laws_eqEditS_l1 a b) (fun _ _ => rfl) hg.1 (fun x hx y _ => eq_Edit x y (hg.2 x hx))
theorem smc_EditS (a : (List DEdit)) (h : a.length ≤ 1048576) : (a.length ≤ maxLen ∧ ∀ e0 ∈ a, sm_DEdit e0) := ⟨Nat.le_trans h (by decide), fun _ _ => trivial⟩
theorem eq_Act (a b : DAct) (hg : sm_DAct a) : F_laws_eqAct a b = some (decide (a = b)) := by
  obtain ⟨a0, a1, a2⟩ := a
  obtain ⟨b0, b1, b2⟩ := b
  unfold sm_DAct at hg
  unfold F_laws_eqAct
  simp only [eq_EditS a2 b2 hg, Option.bind_some]
  by_cases h0 : a0 = b0
  · by_cases h1 : a1 = b1
    · by_cases h2 : a2 = b2
      · rw [bne_f h0, cond_false, bne_f h1, cond_false, decide_eq_true h2, Bool.not_true, cond_false]; simp [h0, h1, h2]
      · rw [bne_f h0, cond_false, bne_f h1, cond_false, decide_eq_false h2, Bool.not_false, cond_true]; simp [h2]
    · rw [bne_f h0, cond_false, bne_t h1, cond_true]; simp [h1]
  · rw [bne_t h0, cond_true]; simp [h0]
theorem smc_Act (a : DAct) (h : (a.fPatch.length) ≤ 1048576) : sm_DAct a := smc_EditS a.fPatch (by omega)
theorem eq_ActS (a b : (List DAct)) (hg : (a.length ≤ maxLen ∧ ∀ e0 ∈ a, sm_DAct e0)) : F_laws_eqActS a b = some (decide (a = b)) :=
  eqS_eq (F := F_laws_eqActS_l1 a b) (fun _ _ => rfl) hg.1 (fun x hx y _ => eq_Act x y (hg.2 x hx))
theorem smc_ActS (a : (List DAct)) (h : (a.length + (a.map (fun e : DAct => (e.fPatch.length))).sum) ≤ 1048576) : (a.length ≤ maxLen ∧ ∀ e0 ∈ a, sm_DAct e0) := ⟨Nat.le_trans (Nat.le_trans (Nat.le_add_right _ _) h) (by decide), fun e he => smc_Act e (Nat.le_trans (Nat.le_trans (le_sum (w := fun e : DAct => (e.fPatch.length)) he) (Nat.le_add_left _ _)) h)⟩
theorem markText_some (k : Int) (h0 : 0 ≤ k) (h : k ≤ MB) : ∃ t, F_laws_markText k = some t := by
  unfold F_laws_markText
  by_cases hk : k ≤ 0
  · exact ⟨_, by rw [decide_eq_true hk]; rfl⟩
  · rw [decide_eq_false hk, cond_false]
    by_cases hm : k < 64
    · obtain ⟨n, rfl⟩ : ∃ n : Nat, k = n := ⟨k.toNat, by omega⟩
      have hp : (n : Int) < 2 ^ n := by exact_mod_cast Nat.lt_two_pow_self
      exact text_loop (F := F_laws_markText_l1) (D := fun x => [UInt8.ofInt (IntKind.u8.wrap (IntKind.i64.wrap (48 + (Int.tmod x 10))))]) (fun _ => rfl) (fun _ _ _ => rfl) n _ n [] h0 hp (by omega) h (by simp; omega)
    · exact text_loop (F := F_laws_markText_l1) (D := fun x => [UInt8.ofInt (IntKind.u8.wrap (IntKind.i64.wrap (48 + (Int.tmod x 10))))]) (fun _ => rfl) (fun _ _ _ => rfl) 63 _ k [] h0 (by unfold MB at h; omega) (by omega) h (by simp)
theorem mk_ArticleS (a : (List DArticle)) (h : a.length ≤ 1048576) : MK F_laws_markArticleS (a.map (fun _ : DArticle => (1 + 1))).sum a := by
  have hlen := (Nat.le_trans h (by decide : 1048576 ≤ maxLen))
  refine mk_loop (FM := F_laws_markArticleS_l1) (w := fun _ : DArticle => (1 + 1)) (Q := (fun _ => True)) (n := a.length) (fun f x k hx => ?_) (fun i f x k hi hx _ h1 h2 => ?_) a rfl (fun _ _ => trivial)
  · rw [F_laws_markArticleS_l1.eq_2, hx, dlt_f (by omega)]; rfl
  ·
    have h2 : k + ((1 + 1) : Nat) ≤ MB := h2
    have ek : k + ((1 + 1) : Nat) = k + 1 + 1 := by omega
    have w0 : IntKind.i64.wrap (k + 1) = k + 1 := MB_id (by omega) (by omega)
    have w1 : IntKind.i64.wrap (k + 1 + 1) = k + 1 + 1 := MB_id (by omega) (by omega)
    obtain ⟨t1, e1⟩ := markText_some (k + 1) (by omega) (by omega)
    refine ⟨⟨k, t1⟩, ?_⟩
    rw [F_laws_markArticleS_l1.eq_2, dlt_t hi, cond_true, idx_nat hi]
    show _ = F_laws_markArticleS_l1 f _ (k + ((1 + 1) : Nat)) _
    rw [ek]
    simp only [w0, w1, e1, Option.bind_some, Int.toNat_natCast, idx_set hi, List.set_set, W_succ hi (by omega)]
theorem mkc_ArticleS (a : (List DArticle)) (h : a.length ≤ 1048576) (k : Int) (h0 : 0 ≤ k) (h1 : k ≤ 2305843009213693952) : ∃ m k', F_laws_markArticleS a k = some (m, k') ∧ k ≤ k' ∧ k' ≤ k + 2097152 := by
  have hw : (a.map (fun _ : DArticle => (1 + 1))).sum ≤ 2097152 := by rw [wsum_const]; omega
  obtain ⟨m, e1⟩ := mk_ArticleS a h k h0 (by unfold MB; omega)
  exact ⟨m, _, e1, by omega, by omega⟩
theorem mk_EditS (a : (List DEdit)) (h : a.length ≤ 1048576) : MK F_laws_markEditS (a.map (fun _ : DEdit => (1 + 1 + 1 + 1))).sum a := by
  have hlen := (Nat.le_trans h (by decide : 1048576 ≤ maxLen))
  refine mk_loop (FM := F_laws_markEditS_l1) (w := fun _ : DEdit => (1 + 1 + 1 + 1)) (Q := (fun _ => True)) (n := a.length) (fun f x k hx => ?_) (fun i f x k hi hx _ h1 h2 => ?_) a rfl (fun _ _ => trivial)
  · rw [F_laws_markEditS_l1.eq_2, hx, dlt_f (by omega)]; rfl
  ·
    have h2 : k + ((1 + 1 + 1 + 1) : Nat) ≤ MB := h2
    have ek : k + ((1 + 1 + 1 + 1) : Nat) = k + 1 + 1 + 1 + 1 := by omega
    have w0 : IntKind.i64.wrap (k + 1) = k + 1 := MB_id (by omega) (by omega)
    have w1 : IntKind.i64.wrap (k + 1 + 1) = k + 1 + 1 := MB_id (by omega) (by omega)
    have w2 : IntKind.i64.wrap (k + 1 + 1 + 1) = k + 1 + 1 + 1 := MB_id (by omega) (by omega)
    obtain ⟨t2, e2⟩ := markText_some (k + 1 + 1) (by omega) (by omega)
    have w3 : IntKind.i64.wrap (k + 1 + 1 + 1 + 1) = k + 1 + 1 + 1 + 1 := MB_id (by omega) (by omega)
    obtain ⟨t3, e3⟩ := markText_some (k + 1 + 1 + 1) (by omega) (by omega)
    refine ⟨⟨k, k + 1, t2, t3⟩, ?_⟩
    rw [F_laws_markEditS_l1.eq_2, dlt_t hi, cond_true, idx_nat hi]
    show _ = F_laws_markEditS_l1 f _ (k + ((1 + 1 + 1 + 1) : Nat)) _
    rw [ek]
    simp only [w0, w1, w2, e2, w3, e3, Option.bind_some, Int.toNat_natCast, idx_set hi, List.set_set, W_succ hi (by omega)]
theorem mkc_EditS (a : (List DEdit)) (h : a.length ≤ 1048576) (k : Int) (h0 : 0 ≤ k) (h1 : k ≤ 2305843009213693952) : ∃ m k', F_laws_markEditS a k = some (m, k') ∧ k ≤ k' ∧ k' ≤ k + 4194304 := by
  have hw : (a.map (fun _ : DEdit => (1 + 1 + 1 + 1))).sum ≤ 4194304 := by rw [wsum_const]; omega
  obtain ⟨m, e1⟩ := mk_EditS a h k h0 (by unfold MB; omega)
  exact ⟨m, _, e1, by omega, by omega⟩
theorem mk_ActS (a : (List DAct)) (h : (a.length + (a.map (fun e : DAct => (e.fPatch.length))).sum) ≤ 1048576) : MK F_laws_markActS (a.map (fun e : DAct => (1 + 1 + (e.fPatch.map (fun _ : DEdit => (1 + 1 + 1 + 1))).sum))).sum a := by
  have hlen := (Nat.le_trans (Nat.le_trans (Nat.le_add_right _ _) h) (by decide : 1048576 ≤ maxLen))
  refine mk_loop (FM := F_laws_markActS_l1) (w := fun e : DAct => (1 + 1 + (e.fPatch.map (fun _ : DEdit => (1 + 1 + 1 + 1))).sum)) (Q := (fun e : DAct => e.fPatch.length ≤ 1048576)) (n := a.length) (fun f x k hx => ?_) (fun i f x k hi hx hQ h1 h2 => ?_) a rfl (fun e he => by
      have := Nat.le_trans (Nat.le_trans (le_sum (w := fun e : DAct => (e.fPatch.length)) he) (Nat.le_add_left _ _)) h
      exact this)
  · rw [F_laws_markActS_l1.eq_2, hx, dlt_f (by omega)]; rfl
  ·
    have h2 : k + ((1 + 1 + (x[i].fPatch.map (fun _ : DEdit => (1 + 1 + 1 + 1))).sum) : Nat) ≤ MB := h2
    have ek : k + ((1 + 1 + (x[i].fPatch.map (fun _ : DEdit => (1 + 1 + 1 + 1))).sum) : Nat) = k + 1 + 1 + ((x[i].fPatch.map (fun _ : DEdit => (1 + 1 + 1 + 1))).sum : Nat) := by omega
    have HQ0 := hQ
    have w0 : IntKind.i64.wrap (k + 1) = k + 1 := MB_id (by omega) (by omega)
    have w1 : IntKind.i64.wrap (k + 1 + 1) = k + 1 + 1 := MB_id (by omega) (by omega)
    obtain ⟨m2, a2⟩ := mk_EditS _ HQ0 (k + 1 + 1) (by omega) (by omega)
    have n2 : decide (k + 1 + 1 + ((x[i].fPatch.map (fun _ : DEdit => (1 + 1 + 1 + 1))).sum : Nat) < 0) = false := decide_eq_false (by omega)
    refine ⟨⟨k, k + 1, m2⟩, ?_⟩
    rw [F_laws_markActS_l1.eq_2, dlt_t hi, cond_true, idx_nat hi]
    show _ = F_laws_markActS_l1 f _ (k + ((1 + 1 + (x[i].fPatch.map (fun _ : DEdit => (1 + 1 + 1 + 1))).sum) : Nat)) _
    rw [ek]
    simp only [w0, w1, a2, Option.bind_some, Int.toNat_natCast, idx_set hi, List.set_set, W_succ hi (by omega)]
theorem wle_ActS (a : (List DAct)) : (a.map (fun e : DAct => (1 + 1 + (e.fPatch.map (fun _ : DEdit => (1 + 1 + 1 + 1))).sum))).sum ≤ 8 * (a.length + (a.map (fun e : DAct => (e.fPatch.length))).sum) := by
  induction a with
  | nil => simp
  | cons x r ih =>
    rw [List.map_cons, List.sum_cons, List.map_cons, List.sum_cons, List.length_cons]
    have : (1 + 1 + (x.fPatch.map (fun _ : DEdit => (1 + 1 + 1 + 1))).sum) ≤ 8 * ((x.fPatch.length) + 1) := by
      have q0 : (x.fPatch.map (fun _ : DEdit => (1 + 1 + 1 + 1))).sum ≤ 8 * x.fPatch.length := by rw [wsum_const]; omega
      omega
    omega
theorem mkc_ActS (a : (List DAct)) (h : (a.length + (a.map (fun e : DAct => (e.fPatch.length))).sum) ≤ 1048576) (k : Int) (h0 : 0 ≤ k) (h1 : k ≤ 2305843009213693952) : ∃ m k', F_laws_markActS a k = some (m, k') ∧ k ≤ k' ∧ k' ≤ k + 8388608 := by
  have hw : (a.map (fun e : DAct => (1 + 1 + (e.fPatch.map (fun _ : DEdit => (1 + 1 + 1 + 1))).sum))).sum ≤ 8388608 := Nat.le_trans (wle_ActS a) (by omega)
  obtain ⟨m, e1⟩ := mk_ActS a h k h0 (by unfold MB; omega)
  exact ⟨m, _, e1, by omega, by omega⟩
theorem mh_Int64S (a : (List Int)) (h : a.length ≤ maxLen) : MH F_laws_markInt64S F_laws_heldInt64S a.length a := mh_ints (fun _ _ _ _ => rfl) (fun _ _ _ _ => rfl) a h
theorem mhc_Int64S (a : (List Int)) (h : a.length ≤ 1048576) (k : Int) (h0 : 0 ≤ k) (h1 : k ≤ 2305843009213693952) : ∃ m k', F_laws_markInt64S a k = some (m, k') ∧ F_laws_heldInt64S m k = some k' ∧ k ≤ k' ∧ k' ≤ k + 1048576 := by
  obtain ⟨m, e1, e2⟩ := mh_Int64S a (Nat.le_trans h (by decide)) k h0 (by unfold MB; omega)
  exact ⟨m, _, e1, e2, by omega, by omega⟩
theorem mkc_Int64S (a : (List Int)) (h : a.length ≤ 1048576) (k : Int) (h0 : 0 ≤ k) (h1 : k ≤ 2305843009213693952) : ∃ m k', F_laws_markInt64S a k = some (m, k') ∧ k ≤ k' ∧ k' ≤ k + 1048576 := by
  obtain ⟨m, k2, e, -, u, v⟩ := mhc_Int64S a h k h0 h1
  exact ⟨m, k2, e, u, v⟩
end Go.FX
