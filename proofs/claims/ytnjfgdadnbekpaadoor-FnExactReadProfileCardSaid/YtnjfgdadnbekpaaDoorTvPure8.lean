/- The pure part: what the functions compute, in plain Lean, with no program in sight; no condition. -/
import Derived.Test.YtnjfgdadnbekpaaDoorTvPure7
namespace Go.FX
open Go Go.GL Go.RowKit
theorem prof_bound {R : List (List Nat)} {T : List Nat} (hR : R.length ≤ 12) (hT : T.length ≤ 12) (hr : ∀ r ∈ R, r.length ≤ 6) :
    ((prof R T).fRankings.length + ((prof R T).fRankings.map fun e : List Int => e.length).sum) + (prof R T).fWeights.length ≤ 1048576 := by
  have h1 : (prof R T).fRankings.length = R.length := prof_len
  have h2 : (prof R T).fWeights.length = T.length := List.length_map _
  have h3 : ∀ l : List (List Nat), (∀ r ∈ l, r.length ≤ 6) → ((l.map fun r => r.map Int.ofNat).map fun e : List Int => e.length).sum ≤ 6 * l.length := by
    intro l
    induction l with
    | nil => intro _; simp
    | cons a l ih =>
      intro h
      have := h a (by simp)
      have := ih fun r hr => h r (List.mem_cons_of_mem _ hr)
      simp only [List.map_cons, List.sum_cons, List.length_map, List.length_cons] at *
      omega
  have h4 := h3 R hr
  have h5 : ((prof R T).fRankings.map fun e : List Int => e.length).sum ≤ 6 * R.length := h4
  omega
/-! a profile's text, exactly -/
def qline (z : List Nat × Nat) : Bytes := dd 5 z.2 ++ 42 :: z.1.flatMap let1
def qtxt (Z : List (List Nat × Nat)) : Bytes := Z.flatMap fun z => qline z ++ [10]
def ZOk (Z : List (List Nat × Nat)) : Prop := ∀ z ∈ Z, z.2 ≤ 1000 ∧ z.1.length ≤ 6 ∧ ∀ x ∈ z.1, x < 6
theorem let_len (l : List Nat) : (l.flatMap let1).length = l.length := by
  induction l with
  | nil => rfl
  | cons a l ih => rw [List.flatMap_cons, List.length_append, ih, List.length_cons]; unfold let1; simp; omega
theorem qline_len {z : List Nat × Nat} (h : z.1.length ≤ 6) : (qline z).length ≤ 12 := by
  have := dd_len 5 z.2
  unfold qline
  rw [List.length_append, List.length_cons, let_len]
  omega
section
variable {n : Nat} {R : List (List Nat)} {T : List Nat} (h : Prof n R T)
include h
theorem zip_ok : ZOk (R.zip T) := by
  intro z hz
  have h6 := h.n6
  have h1 := List.of_mem_zip (a := z.1) (b := z.2) hz
  exact ⟨h.wt _ h1.2, by have := h.len _ h1.1; omega, fun x hx => by have := h.lt _ h1.1 x hx; omega⟩
theorem text_t1 : ∀ m i f, i + m = R.length → m < f → ∀ s : Bytes, s.length ≤ 13 * i → F_spec_l06Text_l1 (prof R T) f s (i : Int) = some (s ++ qtxt ((R.zip T).drop i)) ∧ F_impl_ProfileText_l1 (prof R T) f s (i : Int) = some (s ++ qtxt ((R.zip T).drop i), true) := by
  have h6 := h.n6
  have h12 := h.r12
  have hw := h.wl
  have hz : (R.zip T).length = R.length := by rw [List.length_zip]; omega
  refine up (P := fun i f => ∀ s : Bytes, s.length ≤ 13 * i → F_spec_l06Text_l1 (prof R T) f s (i : Int) = some (s ++ qtxt ((R.zip T).drop i)) ∧ F_impl_ProfileText_l1 (prof R T) f s (i : Int) = some (s ++ qtxt ((R.zip T).drop i), true)) (fun f s hs => ?_) (fun i f hi ih s hs => ?_)
  · rw [F_spec_l06Text_l1.eq_2, F_impl_ProfileText_l1.eq_2, prof_len, dlt_f (by omega), List.drop_of_length_le (by omega)]
    simp [qtxt]
  · obtain ⟨hl, hx⟩ := row_at h hi
    have hiT : i < T.length := by omega
    have hT := h.wt _ (List.getElem_mem hiT)
    have hdl := dd_len 5 T[i]
    have s2 := sp_t2 h hi n 0 1000 (by omega) (by omega) (s ++ (dd 5 T[i] ++ [42])) (by simp; omega)
    have i2 := im_t2 h hi n 0 ((R[i].map Int.ofNat).length + 1) (by omega) (by rw [List.length_map]; omega) (s ++ (dd 5 T[i] ++ [42])) (by simp; omega)
    rw [show ((0 : Nat) : Int) = 0 from rfl, List.drop_zero] at s2 i2
    have hd : qtxt ((R.zip T).drop i) = qline (R[i], T[i]) ++ [10] ++ qtxt ((R.zip T).drop (i + 1)) := by
      unfold qtxt
      rw [List.drop_eq_getElem_cons (by omega), List.flatMap_cons, List.getElem_zip]
    have hfl := let_len R[i]
    rw [F_spec_l06Text_l1.eq_2, F_impl_ProfileText_l1.eq_2, prof_len, dlt_t hi, cond_true, cond_true, idx_wt hiT, idx_prof hi, idx_wt hiT, spDec hT, imDec hT, Option.bind_some, Option.bind_some, cat_ok (by simp; omega), cat_ok (by simp; omega), cat_ok (by simp; omega), cat_ok (by simp; omega), s2, i2, Option.bind_some, Option.bind_some, W_succ hi (by unfold maxLen; omega)]
    have := ih (s ++ (dd 5 T[i] ++ [42]) ++ (R[i].flatMap let1 ++ [10])) (by simp only [List.length_append, List.length_singleton, hfl]; omega)
    rw [this.1, this.2, hd]
    unfold qline
    simp
end
def tx (p : DProfile) : Bytes := qtxt ((p.fRankings.map fun r => r.map Int.toNat).zip (p.fWeights.map Int.toNat))
theorem toNat_ofNat (l : List Nat) : (l.map Int.ofNat).map Int.toNat = l := by
  rw [List.map_map]
  exact List.map_id l
theorem tx_prof (R : List (List Nat)) (T : List Nat) : tx (prof R T) = qtxt (R.zip T) := by
  unfold tx prof
  simp only
  rw [toNat_ofNat, List.map_map]
  congr 2
  exact (List.map_congr_left fun r _ => toNat_ofNat r).trans (List.map_id R)
theorem spText {p : DProfile} (h : profOk p = true) : F_spec_l06Text p = some (tx p) := by
  obtain ⟨n, R, T, rfl, hp, -⟩ := prof_nat h
  have e := (text_t1 hp R.length 0 (R.length + 1) (by omega) (by omega) [] (by simp)).1
  rw [List.drop_zero, List.nil_append] at e
  unfold F_spec_l06Text
  rw [tx_prof, prof_len]
  exact e
theorem imText (p : DProfile) (h : smP p) : F_impl_ProfileText p = (if profOk p = true then some (tx p, true) else some ([], false)) := by
  unfold F_impl_ProfileText
  rw [imProfile p h, Option.bind_some]
  cases q : profOk p with
  | false => rfl
  | true =>
    obtain ⟨n, R, T, rfl, hp, -⟩ := prof_nat q
    have e := (text_t1 hp R.length 0 (R.length + 1) (by omega) (by omega) [] (by simp)).2
    rw [List.drop_zero, List.nil_append] at e
    rw [tx_prof, prof_len, if_pos rfl]
    exact e
/-! lines put together, and taken apart -/
theorem spl_app : ∀ (x t cur : Bytes), (10 : UInt8) ∉ x → spl cur (x ++ 10 :: t) = ((cur ++ x) :: (spl [] t).1, (spl [] t).2) := by
  intro x
  induction x with
  | nil => intro t cur _; rw [List.nil_append, spl, if_pos (show UInt8.toNat 10 = 10 from rfl), List.append_nil]
  | cons c x ih =>
    intro t cur h
    rw [List.mem_cons, not_or] at h
    rw [List.cons_append, spl, if_neg (fun e => h.1 (u8_10.1 e).symm), ih t _ h.2]
    simp
set_option maxRecDepth 100000 in
theorem dig_tab : ∀ k : Fin 1001, (dd 5 k.val).all (fun c => Nat.ble 48 c.toNat && Nat.ble c.toNat 57) = true := by decide +kernel
theorem dig_at {k : Nat} (h : k ≤ 1000) {c : UInt8} (hc : c ∈ dd 5 k) : 48 ≤ c.toNat ∧ c.toNat ≤ 57 := by
  have := List.all_eq_true.1 (dig_tab ⟨k, by omega⟩) c hc
  simpa [Nat.ble_eq] using this
def gS (c : UInt8) : Int := IntKind.i64.wrap (IntKind.u8.wrap ((c.toNat : Int) - 97))
def gI (c : UInt8) : Int := IntKind.i64.wrap ((IntKind.i64.wrap (c.toNat : Int)) - 97)
theorem let_tabs : ∀ k : Fin 6, (let1 k.val).map gS = [(k.val : Int)] ∧ (let1 k.val).map gI = [(k.val : Int)] ∧ (let1 k.val).all (fun c => Nat.ble 97 c.toNat && Nat.ble c.toNat 122) = true := by decide +kernel
theorem let_map (g : UInt8 → Int) (hg : ∀ k : Fin 6, (let1 k.val).map g = [(k.val : Int)]) : ∀ l : List Nat, (∀ x ∈ l, x < 6) → (l.flatMap let1).map g = l.map Int.ofNat := by
  intro l
  induction l with
  | nil => intro _; rfl
  | cons a l ih =>
    intro h
    rw [List.flatMap_cons, List.map_append, ih fun x hx => h x (List.mem_cons_of_mem _ hx), hg ⟨a, h a (by simp)⟩]
    rfl
theorem let_at {l : List Nat} (h : ∀ x ∈ l, x < 6) {c : UInt8} (hc : c ∈ l.flatMap let1) : 97 ≤ c.toNat ∧ c.toNat ≤ 122 := by
  obtain ⟨x, hx, hcx⟩ := List.mem_flatMap.1 hc
  have := List.all_eq_true.1 (let_tabs ⟨x, h x hx⟩).2.2 c hcx
  simpa [Nat.ble_eq] using this
theorem qline_no10 {z : List Nat × Nat} (h1 : z.2 ≤ 1000) (h2 : ∀ x ∈ z.1, x < 6) : (10 : UInt8) ∉ qline z := by
  intro hm
  unfold qline at hm
  rcases List.mem_append.1 hm with hm | hm
  · have := dig_at h1 hm; revert this; decide
  · rcases List.mem_cons.1 hm with hm | hm
    · exact absurd hm (by decide)
    · have := let_at h2 hm; revert this; decide
theorem qtxt_spl : ∀ Z, ZOk Z → spl [] (qtxt Z) = (Z.map qline, []) := by
  intro Z
  induction Z with
  | nil => intro _; rfl
  | cons z Z ih =>
    intro h
    have hz := h z (by simp)
    have e : qtxt (z :: Z) = qline z ++ 10 :: qtxt Z := by unfold qtxt; rw [List.flatMap_cons, List.append_assoc]; rfl
    rw [e, spl_app _ _ [] (qline_no10 hz.1 hz.2.2), ih fun y hy => h y (List.mem_cons_of_mem _ hy)]
    rfl
theorem qtxt_len : ∀ Z, ZOk Z → (qtxt Z).length ≤ 13 * Z.length := by
  intro Z
  induction Z with
  | nil => intro _; exact Nat.le_refl _
  | cons z Z ih =>
    intro h
    have hz := qline_len (h z (by simp)).2.1
    have h2 := ih fun y hy => h y (List.mem_cons_of_mem _ hy)
    have e : qtxt (z :: Z) = qline z ++ 10 :: qtxt Z := by unfold qtxt; rw [List.flatMap_cons, List.append_assoc]; rfl
    rw [e, List.length_append, List.length_cons, List.length_cons]
    omega
theorem cut_app (r : Bytes) : ∀ ds : Bytes, (∀ c ∈ ds, c.toNat ≠ 42) → cutB 42 (ds ++ 42 :: r) = (ds, r) := by
  intro ds
  induction ds with
  | nil => intro _; rw [List.nil_append, cutB, if_pos (show UInt8.toNat 42 = 42 from rfl)]
  | cons c ds ih =>
    intro h
    rw [List.cons_append, cutB, if_neg (h c (by simp)), ih fun x hx => h x (List.mem_cons_of_mem _ hx)]
/-! the program's reading -/
def letsI (x : Bytes) : List Int := (cutB 42 x).2.map gI
def wI (x : Bytes) : Int := ((F_impl_readNumber (cutB 42 x).1 0 1000).getD (0, false)).1
theorem im_l2 (a b : Bytes) (q : Bool) (hb : b.length ≤ 1000000) : F_impl_ReadProfile_l2 (a, b, q) (b.length + 1) [] 0 = some (b.map gI) := by
  have key : ∀ k i f, i + k = b.length → k < f → ∀ out : List Int, out.length ≤ i → F_impl_ReadProfile_l2 (a, b, q) f out (i : Int) = some (out ++ (b.drop i).map gI) := by
    refine up (P := fun i f => ∀ out : List Int, out.length ≤ i → F_impl_ReadProfile_l2 (a, b, q) f out (i : Int) = some (out ++ (b.drop i).map gI)) (fun f out ho => ?_) (fun i f hi ih out ho => ?_)
    · rw [F_impl_ReadProfile_l2.eq_2, dlt_f (Nat.lt_irrefl _), cond_false, List.drop_of_length_le (Nat.le_refl _), List.map_nil, List.append_nil]
    · rw [F_impl_ReadProfile_l2.eq_2, dlt_t hi, cond_true, idx_nat hi, app_ok (by simp only [List.length_cons, List.length_nil]; omega), W_succ hi (by unfold maxLen; omega), ih _ (by simp only [List.length_append, List.length_cons, List.length_nil]; omega), List.drop_eq_getElem_cons hi, List.map_cons, List.append_assoc]
      rfl
  exact key b.length 0 (b.length + 1) (by omega) (by omega) [] (Nat.le_refl _)
theorem im_l1 (x15 L : List Bytes) (hx : List.drop (Int.toNat 0) (List.take (Int.toNat (IntKind.i64.wrap ((List.length x15 : Int) - 1))) x15) = L) (hL : L.length ≤ 1000000) (hl : ∀ x ∈ L, x.length ≤ 1000000) :
    F_impl_ReadProfile_l1 x15 (L.length + 1) [] [] 0 = some (L.map letsI, L.map wI) := by
  have key : ∀ k i f, i + k = L.length → k < f → ∀ (o1 : List (List Int)) (o2 : List Int), o1.length ≤ i → o2.length ≤ i → F_impl_ReadProfile_l1 x15 f o1 o2 (i : Int) = some (o1 ++ (L.drop i).map letsI, o2 ++ (L.drop i).map wI) := by
    refine up (P := fun i f => ∀ (o1 : List (List Int)) (o2 : List Int), o1.length ≤ i → o2.length ≤ i → F_impl_ReadProfile_l1 x15 f o1 o2 (i : Int) = some (o1 ++ (L.drop i).map letsI, o2 ++ (L.drop i).map wI)) (fun f o1 o2 h1 h2 => ?_) (fun i f hi ih o1 o2 h1 h2 => ?_)
    · rw [F_impl_ReadProfile_l1.eq_2, hx, dlt_f (Nat.lt_irrefl _), cond_false, List.drop_of_length_le (Nat.le_refl _), List.map_nil, List.map_nil, List.append_nil, List.append_nil]
    · have hlx := hl _ (List.getElem_mem hi)
      have hc := cut_len 42 L[i]
      obtain ⟨⟨w, b1⟩, e1, -⟩ := imRead (cutB 42 L[i]).1 0 1000 (by omega)
      obtain ⟨b, hcut⟩ := imCut L[i] 42 (by unfold maxLen; omega)
      rw [show UInt8.toNat 42 = 42 from rfl] at hcut
      have hw : wI L[i] = w := by unfold wI; rw [e1]; rfl
      have hlet : letsI L[i] = (cutB 42 L[i]).2.map gI := rfl
      rw [F_impl_ReadProfile_l1.eq_2, hx, dlt_t hi, cond_true, idx_nat hi, hcut, Option.bind_some]
      simp only
      rw [e1, Option.bind_some, im_l2 _ _ _ (by omega), Option.bind_some, app_ok (by simp only [List.length_cons, List.length_nil]; omega), app_ok (by simp only [List.length_cons, List.length_nil]; omega), Option.bind_some, Option.bind_some, W_succ hi (by unfold maxLen; omega)]
      simp only
      rw [ih _ _ (by rw [List.length_append, List.length_singleton]; omega) (by rw [List.length_append, List.length_singleton]; omega), List.drop_eq_getElem_cons hi, List.map_cons, List.map_cons, hw, hlet, List.append_assoc, List.append_assoc]
      rfl
  exact key L.length 0 (L.length + 1) (by omega) (by omega) [] [] (Nat.le_refl _) (Nat.le_refl _)
def pI (L : List Bytes) : DProfile := ⟨L.map letsI, L.map wI⟩
theorem imReadProf (t : Bytes) : F_impl_ReadProfile t = some (if t.length ≤ 1000 ∧ profOk (pI (spl [] t).1) = true ∧ tx (pI (spl [] t).1) = t then (pI (spl [] t).1, true) else (⟨[], []⟩, false)) := by
  unfold F_impl_ReadProfile
  by_cases h1 : t.length ≤ 1000
  · obtain ⟨hl, hr⟩ := spl_len t []
    simp only [List.length_nil, Nat.zero_add] at hl hr
    have hcl := spl_count t []
    have hcnt : t.count 10 ≤ t.length := List.count_le_length
    have w : IntKind.i64.wrap ((List.length ((spl [] t).1 ++ [(spl [] t).2]) : Int) - 1) = (((spl [] t).1.length : Nat) : Int) := by
      rw [W_pred (by rw [List.length_append, List.length_singleton]; omega) (by rw [List.length_append, List.length_singleton]; unfold maxLen; omega), List.length_append, List.length_singleton]; rfl
    have hx : List.drop (Int.toNat 0) (List.take (Int.toNat (IntKind.i64.wrap ((List.length ((spl [] t).1 ++ [(spl [] t).2]) : Int) - 1))) ((spl [] t).1 ++ [(spl [] t).2])) = (spl [] t).1 := by
      rw [w, Int.toNat_natCast, List.take_left' rfl]; rfl
    have hsm : smP (pI (spl [] t).1) := ⟨by unfold pI; rw [List.length_map]; omega, by unfold pI; rw [List.length_map]; omega, fun r hr => by
      obtain ⟨x, hx, rfl⟩ := List.mem_map.1 hr
      have h2 := (cut_len 42 x).2
      have h3 := hl x hx
      unfold letsI
      rw [List.length_map]
      omega⟩
    rw [show decide ((List.length t : Int) > 1000) = false from decide_eq_false (by omega), cond_false, imSplit t (by omega), Option.bind_some, hx, w, sub_ok0 (by rw [List.length_append]; omega), im_l1 _ _ hx (by omega) (fun x hx => by have := hl x hx; omega), Option.bind_some]
    show (F_impl_ProfileText (pI (spl [] t).1)).bind _ = _
    rw [imText _ hsm]
    cases q : profOk (pI (spl [] t).1) with
    | false => rw [if_neg (by decide), if_neg (by simp)]; rfl
    | true =>
      rw [if_pos rfl, Option.bind_some]
      by_cases he : tx (pI (spl [] t).1) = t
      · rw [if_pos ⟨h1, rfl, he⟩]
        simp only [show (tx (pI (spl [] t).1) != t) = false from by rw [he]; exact bne_self_eq_false t]
        rfl
      · rw [if_neg (by rintro ⟨-, -, h⟩; exact he h)]
        simp only [show (tx (pI (spl [] t).1) != t) = true from by rw [bne_iff_ne]; exact he]
        rfl
  · rw [show decide ((List.length t : Int) > 1000) = true from decide_eq_true (by omega), cond_true, if_neg (by rintro ⟨h, -⟩; exact h1 h)]
theorem pI_qtxt {Z : List (List Nat × Nat)} (h : ZOk Z) : pI (Z.map qline) = ⟨Z.map fun z => z.1.map Int.ofNat, Z.map fun z => (z.2 : Int)⟩ := by
  unfold pI
  rw [List.map_map, List.map_map]
  congr 1
  · refine List.map_congr_left fun z hz => ?_
    obtain ⟨h1, -, h3⟩ := h z hz
    show letsI (qline z) = _
    unfold letsI qline
    rw [cut_app _ _ (fun c hc => by have := dig_at h1 hc; omega)]
    exact let_map gI (fun k => (let_tabs k).2.1) z.1 h3
  · refine List.map_congr_left fun z hz => ?_
    obtain ⟨h1, -, h3⟩ := h z hz
    show wI (qline z) = _
    unfold wI qline
    rw [cut_app _ _ (fun c hc => by have := dig_at h1 hc; omega), imRead_dd h1 (by omega) (by omega)]
    rfl
theorem prof_zip {n : Nat} {R : List (List Nat)} {T : List Nat} (h : Prof n R T) : (⟨(R.zip T).map fun z => z.1.map Int.ofNat, (R.zip T).map fun z => (z.2 : Int)⟩ : DProfile) = prof R T := by
  have hw := h.wl
  unfold prof
  congr 1
  · have : (fun z : List Nat × Nat => z.1.map Int.ofNat) = (fun r : List Nat => r.map Int.ofNat) ∘ Prod.fst := rfl
    rw [this, ← List.map_map, List.map_fst_zip (by omega)]
  · have : (fun z : List Nat × Nat => (z.2 : Int)) = Int.ofNat ∘ Prod.snd := rfl
    rw [this, ← List.map_map, List.map_snd_zip (by omega)]
theorem im_rt {p : DProfile} (h : profOk p = true) : F_impl_ReadProfile (tx p) = some (p, true) := by
  obtain ⟨n, R, T, rfl, hp, -⟩ := prof_nat h
  have hz := zip_ok hp
  have h12 := hp.r12
  have hlen := qtxt_len _ hz
  have hzl : (R.zip T).length ≤ 12 := by rw [List.length_zip]; omega
  have e : pI (spl [] (tx (prof R T))).1 = prof R T := by rw [tx_prof, qtxt_spl _ hz, pI_qtxt hz, prof_zip hp]
  rw [imReadProf, e, if_pos ⟨by rw [tx_prof]; omega, h, rfl⟩]
end Go.FX
