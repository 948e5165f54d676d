/- The plain lemmas on the sizes, the copies and the equality of the laws' types; no condition. Printed by a program of mine (puregen.py). -/
import Derived.Test.YtnjfgdadnbekpaaDoorTuFns
namespace Go.FX
open Go Go.GL Go.RowKit
def sm_DEdit (_ : DEdit) : Prop := True
theorem eq_Edit (a b : DEdit) (_ : sm_DEdit a) : F_laws_eqEdit a b = some (decide (a = b)) := by
  obtain ⟨a0, a1, a2, a3⟩ := a
  obtain ⟨b0, b1, b2, b3⟩ := b
  unfold F_laws_eqEdit
  dsimp only
  by_cases h0 : a0 = b0
  · by_cases h1 : a1 = b1
    · by_cases h2 : a2 = b2
      · by_cases h3 : a3 = b3
        · rw [bne_f h0, cond_false, bne_f h1, cond_false, bne_f h2, cond_false, bne_f h3, cond_false]; simp [h0, h1, h2, h3]
        · rw [bne_f h0, cond_false, bne_f h1, cond_false, bne_f h2, cond_false, bne_t h3, cond_true]; simp [h3]
      · rw [bne_f h0, cond_false, bne_f h1, cond_false, bne_t h2, cond_true]; simp [h2]
    · rw [bne_f h0, cond_false, bne_t h1, cond_true]; simp [h1]
  · rw [bne_t h0, cond_true]; simp [h0]
theorem smc_Edit (a : DEdit) (_ : 0 ≤ 1048576) : sm_DEdit a := trivial
theorem eq_EditS (a b : (List DEdit)) (hg : (a.length ≤ maxLen ∧ ∀ e0 ∈ a, sm_DEdit e0)) : F_laws_eqEditS a b = some (decide (a = b)) :=
  eqS_eq (F := F_laws_eqEditS_l1 a b) (fun _ _ => rfl) hg.1 (fun x hx y _ => eq_Edit x y (hg.2 x hx))
theorem smc_EditS (a : (List DEdit)) (h : a.length ≤ 1048576) : (a.length ≤ maxLen ∧ ∀ e0 ∈ a, sm_DEdit e0) := ⟨Nat.le_trans h (by decide), fun _ _ => trivial⟩
theorem markText_some (k : Int) (h0 : 0 ≤ k) (h : k ≤ MB) : ∃ t, F_laws_markText k = some t := by
  unfold F_laws_markText
  by_cases hk : k ≤ 0
  · exact ⟨_, by rw [decide_eq_true hk]; rfl⟩
  · rw [decide_eq_false hk, cond_false]
    by_cases hm : k < 64
    · obtain ⟨n, rfl⟩ : ∃ n : Nat, k = n := ⟨k.toNat, by omega⟩
      have hp : (n : Int) < 2 ^ n := by exact_mod_cast Nat.lt_two_pow_self
      exact text_loop (F := F_laws_markText_l1) (D := fun x => [UInt8.ofInt (IntKind.u8.wrap (IntKind.i64.wrap (48 + (Int.tmod x 10))))]) (fun _ => rfl) (fun _ _ _ => rfl) n _ n [] h0 hp (by omega) h (by simp; omega)
    · exact text_loop (F := F_laws_markText_l1) (D := fun x => [UInt8.ofInt (IntKind.u8.wrap (IntKind.i64.wrap (48 + (Int.tmod x 10))))]) (fun _ => rfl) (fun _ _ _ => rfl) 63 _ k [] h0 (by unfold MB at h; omega) (by omega) h (by simp)
theorem mh_EditS (a : (List DEdit)) (h : a.length ≤ 1048576) : MH F_laws_markEditS F_laws_heldEditS (a.map (fun _ : DEdit => (1 + 1 + 1 + 1))).sum a := by
  have hlen := (Nat.le_trans h (by decide : 1048576 ≤ maxLen))
  refine mh_loop (FM := F_laws_markEditS_l1) (FH := F_laws_heldEditS_l1) (w := fun _ : DEdit => (1 + 1 + 1 + 1)) (Q := (fun _ => True)) (n := a.length) (fun f x k hx => ?_) (fun f x k hx => ?_) (fun i f x k hi hx _ h1 h2 => ?_) a rfl (fun _ _ => trivial)
  · rw [F_laws_markEditS_l1.eq_2, hx, dlt_f (by omega)]; rfl
  · rw [F_laws_heldEditS_l1.eq_2, hx, dlt_f (by omega)]; rfl
  ·
    have h2 : k + ((1 + 1 + 1 + 1) : Nat) ≤ MB := h2
    have ek : k + ((1 + 1 + 1 + 1) : Nat) = k + 1 + 1 + 1 + 1 := by omega
    have w0 : IntKind.i64.wrap (k + 1) = k + 1 := MB_id (by omega) (by omega)
    have w1 : IntKind.i64.wrap (k + 1 + 1) = k + 1 + 1 := MB_id (by omega) (by omega)
    have w2 : IntKind.i64.wrap (k + 1 + 1 + 1) = k + 1 + 1 + 1 := MB_id (by omega) (by omega)
    obtain ⟨t2, e2⟩ := markText_some (k + 1 + 1) (by omega) (by omega)
    have w3 : IntKind.i64.wrap (k + 1 + 1 + 1 + 1) = k + 1 + 1 + 1 + 1 := MB_id (by omega) (by omega)
    obtain ⟨t3, e3⟩ := markText_some (k + 1 + 1 + 1) (by omega) (by omega)
    refine ⟨⟨k, k + 1, t2, t3⟩, ?_, fun f' x' hi' hx' hy => ?_⟩
    · rw [F_laws_markEditS_l1.eq_2, dlt_t hi, cond_true, idx_nat hi]
      show _ = F_laws_markEditS_l1 f _ (k + ((1 + 1 + 1 + 1) : Nat)) _
      rw [ek]
      simp only [w0, w1, w2, e2, w3, e3, Option.bind_some, Int.toNat_natCast, idx_set hi, List.set_set, W_succ hi (by omega)]
    · show _ = F_laws_heldEditS_l1 x' f' (k + ((1 + 1 + 1 + 1) : Nat)) _
      rw [F_laws_heldEditS_l1.eq_2, dlt_t hi', cond_true, ek]
      simp only [idx_nat hi', hy, w0, w1, w2, e2, w3, e3, Option.bind_some, bne_self_eq_false, cond_false, W_succ hi' (by omega)]
theorem mk_EditS (a : (List DEdit)) (h : a.length ≤ 1048576) : MK F_laws_markEditS (a.map (fun _ : DEdit => (1 + 1 + 1 + 1))).sum a := (mh_EditS a h).mk
theorem mhc_EditS (a : (List DEdit)) (h : a.length ≤ 1048576) (k : Int) (h0 : 0 ≤ k) (h1 : k ≤ 2305843009213693952) : ∃ m k', F_laws_markEditS a k = some (m, k') ∧ F_laws_heldEditS m k = some k' ∧ k ≤ k' ∧ k' ≤ k + 4194304 := by
  have hw : (a.map (fun _ : DEdit => (1 + 1 + 1 + 1))).sum ≤ 4194304 := by rw [wsum_const]; omega
  obtain ⟨m, e1, e2⟩ := mh_EditS a h k h0 (by unfold MB; omega)
  exact ⟨m, _, e1, e2, by omega, by omega⟩
theorem mkc_EditS (a : (List DEdit)) (h : a.length ≤ 1048576) (k : Int) (h0 : 0 ≤ k) (h1 : k ≤ 2305843009213693952) : ∃ m k', F_laws_markEditS a k = some (m, k') ∧ k ≤ k' ∧ k' ≤ k + 4194304 := by
  have hw : (a.map (fun _ : DEdit => (1 + 1 + 1 + 1))).sum ≤ 4194304 := by rw [wsum_const]; omega
  obtain ⟨m, e1⟩ := mk_EditS a h k h0 (by unfold MB; omega)
  exact ⟨m, _, e1, by omega, by omega⟩
end Go.FX
