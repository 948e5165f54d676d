/- The pure part: what the functions compute, in plain Lean, with no program in sight; no condition. -/
import Derived.Test.YtegfiapfgffcgaaBePrice1
namespace Go.FX
open Go Go.GL Go.RowKit
theorem len_ok : ∀ n < 13, (F_bits_Len (IntKind.u64.wrap ((n : Nat) : Int))).isSome = true := by decide
theorem imFracSort {D : Nat} {X L : List Int} (hX : Pur D X) (hL : ∀ x ∈ L, x ∈ X) (hl : L.length ≤ 6) :
    F_slices_SortFunc_impl_Fraction_impl_Fraction__impl_Election_price_1 (frs D L) = some (frs D (srt L)) := by
  have hins : F_slices_insertionSortCmpFunc_impl_Fraction__impl_Election_price_1 (frs D L) 0 ((frs D L).length : Int) = some ((sortB (fun f g => decide (cmpF f g < 0)) (frs D L)).reverse) :=
    isort_whole (F := F_slices_insertionSortCmpFunc_impl_Fraction__impl_Election_price_1_l2 0) (G := F_slices_insertionSortCmpFunc_impl_Fraction__impl_Election_price_1_l1 ((frs D L).length : Int) 0)
      (cmp := fun u v => F_impl_Election_price_1 u v) (P := fun f => ∃ x ∈ X, f = fr x D) (fun _ _ _ => rfl)
      (fun u v hu hv => by
        obtain ⟨x, hx, rfl⟩ := hu
        obtain ⟨y, hy, rfl⟩ := hv
        refine ⟨cmpF (fr x D) (fr y D), ?_, rfl⟩
        unfold F_impl_Election_price_1
        rw [imCmp (hX.sm hx) (hX.sm hy)]; rfl) (fun _ _ _ => rfl) (by rw [frs_len]; omega) (fun y hy => by
        obtain ⟨x, hx, rfl⟩ := List.mem_map.1 hy
        exact ⟨x, hL x hx, rfl⟩)
  have hs : (sortB (fun f g => decide (cmpF f g < 0)) (frs D L)).reverse = frs D (srt L) := by
    unfold frs srt
    rw [sortB_map, List.map_reverse]
    have : (fun x y : Int => decide (cmpF (fr x D) (fr y D) < 0)) = fun x y => decide (x < y) := by
      funext x y
      rw [cmp_fr hX.d0, icmp_lt]
    rw [this]
  unfold F_slices_SortFunc_impl_Fraction_impl_Fraction__impl_Election_price_1
  obtain ⟨v, hv⟩ := Option.isSome_iff_exists.1 (len_ok (frs D L).length (by rw [frs_len]; omega))
  rw [hv, Option.bind_some]
  have hp : F_slices_pdqsortCmpFunc_impl_Fraction__impl_Election_price_1 (frs D L) 0 ((frs D L).length : Int) v = some (frs D (srt L)) := by
    unfold F_slices_pdqsortCmpFunc_impl_Fraction__impl_Election_price_1
    have hw : IntKind.i64.wrap (((frs D L).length : Int) - 0) = ((frs D L).length : Int) := by rw [W_id (by omega) (by rw [frs_len]; omega)]; omega
    rw [show (1000 : Nat) = 999 + 1 from rfl, F_slices_pdqsortCmpFunc_impl_Fraction__impl_Election_price_1_l1.eq_2, hw, decide_eq_true (by rw [frs_len]; omega), cond_true, hins, Option.bind_some, hs]
  rw [hp, Option.bind_some]
section
variable {m : Nat} {C : List Nat} {A : List (Nat → Bool)} (h : Elec m C A)
include h
theorem imPriceL1 {D : Nat} {X : List Int} (hx : X.length = A.length) {p : Nat} :
    F_impl_Election_price_l1 (sup A p) (frs D X) ((sup A p).length + 1) [] 0 = some (frs D (own A X p)) := by
  have hk : (sup A p).length ≤ 6 := kk6 h
  have := app_loop (b := 1) (n := (sup A p).length) (F := F_impl_Election_price_l1 (sup A p) (frs D X)) (m := (sup A p).length + 1) (acc := []) (fun i => [fr (X[((sup A p)[i]!).toNat]!) D]) some 0
    (fun j _ => by simp) (fun f acc => by rw [F_impl_Election_price_l1.eq_2, dlt_f (by omega)]; rfl)
    (fun f acc i hi hacc => by
      obtain ⟨j, ej, hj, -⟩ := sup_mem (List.getElem_mem hi)
      have e : (sup A p)[i]! = (j : Int) := by rw [getElem!_pos _ i hi, ej]
      rw [F_impl_Election_price_l1.eq_2, dlt_t hi, cond_true, idx_nat hi, ej, idx_frs (by omega), app_ok (by simp; omega), W_succ hi (by unfold maxLen; omega), e, Int.toNat_natCast, getElem!_pos X j (by omega)]) (by omega) (by simp)
  rw [this, List.nil_append]
  congr 1
  unfold frs own
  rw [List.map_map]
  apply List.ext_getElem
  · rw [← List.map_eq_flatMap]; simp
  · intro i h1 h2
    have e : ((List.range (sup A p).length).flatMap fun i => [fr (X[((sup A p)[i]!).toNat]!) D]) = (List.range (sup A p).length).map fun i => fr (X[((sup A p)[i]!).toNat]!) D := (List.map_eq_flatMap ..).symm
    have hi : i < (sup A p).length := by simpa using h2
    have e2 := List.getElem_of_eq e h1
    rw [e2, List.getElem_map, List.getElem_range, List.getElem_map, getElem!_pos _ i hi]
    rfl
theorem spPrice {D : Nat} {X : List Int} (hX : Pur D X) (hx : X.length = A.length) {p : Nat} (hp : p < C.length) :
    F_spec_l05Price (ele m C A) (frs D X) (p : Int) = some (outP D (prc D ((C[p]! : Int) * D) (srt (own A X p)))) := by
  unfold F_spec_l05Price
  have hk : kk A p ≤ 6 := kk6 h
  have hc := h.cost C[p] (List.getElem_mem hp)
  rw [spSup h hp, Option.bind_some, spPriceL1 h hX hx, Option.bind_some, idx_C hp]
  simp only [F_spec_l05Whole, Option.bind_some]
  rw [spPrice3 (hX.of fun y hy => own_mem hx (srt_mem.1 hy)) (by rw [srt_len, own_len]; exact hk) hc.2, getElem!_pos C p hp]
theorem imPrice {D : Nat} {X : List Int} (hX : Pur D X) (hx : X.length = A.length) {p : Nat} (hp : p < C.length) :
    F_impl_Election_price (ele m C A) (p : Int) (frs D X) = some (outP D (prc D ((C[p]! : Int) * D) (srt (own A X p)))) := by
  unfold F_impl_Election_price
  have hk : kk A p ≤ 6 := kk6 h
  have hc := h.cost C[p] (List.getElem_mem hp)
  rw [imSup h hp, Option.bind_some, imPriceL1 h hx, Option.bind_some, imFracSort hX (fun y hy => own_mem hx hy) (by rw [own_len]; exact hk), Option.bind_some, idx_C hp]
  simp only [F_impl_whole, Option.bind_some]
  rw [imPrice2 (hX.of fun y hy => own_mem hx (srt_mem.1 hy)) (by rw [srt_len, own_len]; exact hk) hc.2, getElem!_pos C p hp]
end
end Go.FX
