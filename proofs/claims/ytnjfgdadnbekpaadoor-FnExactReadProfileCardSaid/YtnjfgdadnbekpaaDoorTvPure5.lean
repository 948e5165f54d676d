/- The pure part: what the functions compute, in plain Lean, with no program in sight; no condition. -/
import Derived.Test.YtnjfgdadnbekpaaDoorTvPure4
namespace Go.FX
open Go Go.GL Go.RowKit
/-! a profile's text -/
def dd : Nat → Nat → Bytes
  | 0, _ => []
  | f + 1, u => if u < 10 then [UInt8.ofNat (48 + u)] else dd f (u / 10) ++ [UInt8.ofNat (48 + u % 10)]
theorem dd_eq : ∀ (f u : Nat), u < 10 ^ (f + 1) → Go.Lib.decDigits u = dd (f + 1) u := by
  intro f
  induction f with
  | zero =>
    intro u hu
    rw [Go.Lib.decDigits, dif_pos (by simpa using hu)]
    unfold dd
    rw [if_pos (by simpa using hu)]
  | succ f ih =>
    intro u hu
    rw [Go.Lib.decDigits]
    unfold dd
    by_cases h : u < 10
    · rw [dif_pos h, if_pos h]
    · rw [dif_neg h, if_neg h, ih (u / 10) (by rw [Nat.pow_succ] at hu; omega)]
theorem dd_len : ∀ f u, (dd f u).length ≤ f := by
  intro f
  induction f with
  | zero => intro u; exact Nat.le_refl _
  | succ f ih =>
    intro u
    unfold dd
    split
    · simp
    · have := ih (u / 10)
      rw [List.length_append, List.length_singleton]; omega
set_option maxRecDepth 100000 in
theorem dec_tab : ∀ k : Fin 1001, F_spec_l01Dec (k.val : Int) = some (dd 5 k.val) := by decide +kernel
theorem spDec {x : Nat} (h : x ≤ 1000) : F_spec_l01Dec (x : Int) = some (dd 5 x) := dec_tab ⟨x, by omega⟩
theorem imDec {x : Nat} (h : x ≤ 1000) : F_impl_Decimal (x : Int) = some (dd 5 x) := by
  unfold F_impl_Decimal F_strconv_FormatInt
  rw [decide_eq_true (show (-9223372036854775808 : Int) ≤ (x : Int) by omega), decide_eq_true (show (x : Int) ≤ 9223372036854775807 by omega)]
  have : Go.Lib.itoa (x : Int) = dd 5 x := by
    unfold Go.Lib.itoa
    rw [if_neg (by omega), Int.toNat_natCast]
    exact dd_eq 4 x (by omega)
  rw [this]; rfl
theorem letter_tab : ∀ k : Fin 6, List.drop (Int.toNat (k.val : Int)) (List.take (Int.toNat (IntKind.i64.wrap ((k.val : Int) + 1))) ([97, 98, 99, 100, 101, 102] : Bytes)) = [(UInt8.ofInt ((IntKind.u8.wrap (IntKind.i64.wrap (97 + (k.val : Int))))))] := by decide +kernel
def let1 (x : Nat) : Bytes := [(UInt8.ofInt ((IntKind.u8.wrap (IntKind.i64.wrap (97 + (x : Int))))))]
section
variable {n : Nat} {R : List (List Nat)} {T : List Nat} (h : Prof n R T)
include h
theorem sp_t2 {i : Nat} (hi : i < R.length) : ∀ m j f, j + m = n → m < f → ∀ s : Bytes, s.length ≤ 1000 + j → F_spec_l06Text_l2 (prof R T) (i : Int) f s (j : Int) = some (s ++ ((R[i].drop j).flatMap let1 ++ [10])) := by
  have h6 := h.n6
  obtain ⟨hl, hx⟩ := row_at h hi
  refine up (P := fun j f => ∀ s : Bytes, s.length ≤ 1000 + j → F_spec_l06Text_l2 (prof R T) (i : Int) f s (j : Int) = some (s ++ ((R[i].drop j).flatMap let1 ++ [10]))) (fun f s hs => ?_) (fun j f hj ih s hs => ?_)
  · rw [F_spec_l06Text_l2.eq_2, idx_prof hi, List.length_map, dlt_f (by omega), cond_false, cat_ok (by simp; omega), List.drop_of_length_le (by omega)]; rfl
  · have hj2 : j < R[i].length := by omega
    rw [F_spec_l06Text_l2.eq_2, idx_prof hi, List.length_map, dlt_t hj2, cond_true, idx_prof hi, idx_nats hj2, cat_ok (by simp; omega), W_succ hj (by unfold maxLen; omega), ih _ (by simp; omega), List.drop_eq_getElem_cons hj2, List.flatMap_cons]
    unfold let1
    simp only [List.append_assoc]
theorem im_t2 {i : Nat} (hi : i < R.length) : ∀ m j f, j + m = n → m < f → ∀ s : Bytes, s.length ≤ 1000 + j → F_impl_ProfileText_l2 (R[i].map Int.ofNat) f s (j : Int) = some (s ++ ((R[i].drop j).flatMap let1 ++ [10])) := by
  have h6 := h.n6
  obtain ⟨hl, hx⟩ := row_at h hi
  refine up (P := fun j f => ∀ s : Bytes, s.length ≤ 1000 + j → F_impl_ProfileText_l2 (R[i].map Int.ofNat) f s (j : Int) = some (s ++ ((R[i].drop j).flatMap let1 ++ [10]))) (fun f s hs => ?_) (fun j f hj ih s hs => ?_)
  · rw [F_impl_ProfileText_l2.eq_2, List.length_map, dlt_f (by omega), cond_false, cat_ok (by simp; omega), List.drop_of_length_le (by omega)]; rfl
  · have hj2 : j < R[i].length := by omega
    have hx6 : R[i][j] < 6 := by have := hx _ (List.getElem_mem hj2); omega
    have hlt := letter_tab ⟨R[i][j], hx6⟩
    simp only at hlt
    have hw : IntKind.i64.wrap ((R[i][j] : Int) + 1) = ((R[i][j] + 1 : Nat) : Int) := W_succ (n := 1000) (by omega) (by decide)
    rw [F_impl_ProfileText_l2.eq_2, List.length_map, dlt_t hj2, cond_true, idx_nats hj2, hlt, hw]
    refine Eq.trans (sub_ok (i := R[i][j]) (j := R[i][j] + 1) (by omega) (by simp; omega)) ?_
    rw [cat_ok (by simp; omega), W_succ hj (by unfold maxLen; omega), ih _ (by simp; omega), List.drop_eq_getElem_cons hj2, List.flatMap_cons]
    unfold let1
    simp only [List.append_assoc]
end
end Go.FX
