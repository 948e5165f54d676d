/- The pure part: what the functions compute, in plain Lean, with no program in sight; no condition. -/
import Derived.Test.YtegfiapfgffcgaaBcEqual3
namespace Go.FX
open Go Go.GL Go.RowKit
/-! valid fractions, and their sums -/
def vF (f : DFraction) : Bool := inB f && decide (Nat.gcd f.fNum.natAbs f.fDen.natAbs = 1)
def VF (f : DFraction) : Prop := Sm f ∧ Nat.gcd f.fNum.natAbs f.fDen.natAbs = 1
theorem inB_sm {f : DFraction} (h : inB f = true) : Sm f := by
  unfold inB at h
  rw [Bool.and_eq_true, within_iff, within_iff] at h
  exact ⟨h.2.1, h.2.2, h.1.1, h.1.2⟩
theorem vF_iff {f : DFraction} : vF f = true ↔ VF f := by
  unfold vF VF
  rw [Bool.and_eq_true, decide_eq_true_iff]
  exact ⟨fun h => ⟨inB_sm h.1, h.2⟩, fun h => ⟨sm_inB h.1, h.2⟩⟩
theorem spOkF (f : DFraction) : F_spec_l01Ok f = some (vF f) := by
  unfold vF
  cases h : inB f
  · rw [Bool.false_and]
    unfold F_spec_l01Ok
    simp only [spIn, Option.bind_some]
    unfold inB at h
    cases w1 : within f.fDen 1 1000000000
    · rfl
    · rw [w1, Bool.true_and] at h
      rw [h]
      rfl
  · rw [ok_cop (inB_sm h), Bool.true_and]
theorem imValid (f : DFraction) : F_impl_ValidFraction f = some (vF f) := by
  unfold vF F_impl_ValidFraction
  simp only [imIn, Option.bind_some]
  cases h : inB f
  · rw [Bool.false_and]
    unfold inB at h
    cases w1 : within f.fDen 1 1000000000
    · rfl
    · rw [w1, Bool.true_and] at h
      rw [h]
      rfl
  · obtain ⟨a, b, c, d⟩ := inB_sm h
    unfold inB at h
    rw [Bool.and_eq_true] at h
    have hg : F_impl_divisor (f.fNum.natAbs : Int) f.fDen = some ((Nat.gcd f.fNum.natAbs f.fDen.natAbs : Nat) : Int) := by
      have hd : f.fDen = (f.fDen.natAbs : Int) := by omega
      have := imGcd 64 f.fNum.natAbs f.fDen.natAbs 1000 (by omega) (by omega)
      rw [← hd] at this
      exact this
    rw [h.1, h.2, cond_true, cond_true, (absv (by omega) (by omega)).2, Option.bind_some, hg, Option.bind_some, Option.bind_some, beq_dec, Bool.true_and]
    congr 1
    rw [decide_eq_decide]
    omega
theorem vF_fr {n : Int} {d : Nat} (hd : 0 < d) : vF (fr n d) = inB (fr n d) := by
  unfold vF
  rw [decide_eq_true (fr_cop hd), Bool.and_true]
theorem addF_fr {f g : DFraction} (hf : Sm f) (hg : Sm g) : ∃ n d, 0 < d ∧ addF f g = fr n d := ⟨_, _, by have := (Sm.dd hf hg).1; omega, rfl⟩
theorem subF_fr {f g : DFraction} (hf : Sm f) (hg : Sm g) : ∃ n d, 0 < d ∧ subF f g = fr n d := ⟨_, _, by have := (Sm.dd hf hg).1; omega, rfl⟩
theorem told_fr {n : Int} {d : Nat} (hd : 0 < d) : F_impl_told (fr n d) = some (res (fr n d)) := by
  unfold F_impl_told res
  rw [imValid, vF_fr hd, Option.bind_some]
  cases inB (fr n d) <;> rfl
def sumF : DFraction → List DFraction → Option DFraction
  | s, [] => some s
  | s, f :: l => if inB (addF s f) = true then sumF (addF s f) l else none
def outS : Option DFraction → DFraction × Bool
  | none => (⟨0, 0⟩, false)
  | some s => (s, true)
theorem sumF_valid : ∀ {l : List DFraction} {s r : DFraction}, sumF s l = some r → VF s → (∀ f ∈ l, VF f) → VF r := by
  intro l
  induction l with
  | nil => intro s r e hs _; cases e; exact hs
  | cons f l ih =>
    intro s r e hs hl
    unfold sumF at e
    have hf := hl f (List.mem_cons_self ..)
    split at e
    · rename_i q
      refine ih e ?_ fun g hg => hl g (List.mem_cons_of_mem _ hg)
      obtain ⟨n, d, hd, e2⟩ := addF_fr hs.1 hf.1
      rw [e2] at q ⊢
      exact vF_iff.1 (by rw [vF_fr hd]; exact q)
    · cases e
def zF : DFraction := ⟨0, 1⟩
theorem zF_valid : VF zF := ⟨⟨by decide, by decide, by decide, by decide⟩, by decide⟩
theorem sum_loop {l : List DFraction} {F : Nat → Int → Int → Int → Option (DFraction × Bool)}
    (hE : ∀ f n d, F (f + 1) n d (l.length : Int) = some (⟨n, d⟩, true))
    (hF : ∀ f (s : DFraction) i (hi : i < l.length), Sm s → F (f + 1) s.fNum s.fDen (i : Int) = bif inB (addF s l[i]) then F f (addF s l[i]).fNum (addF s l[i]).fDen ((i + 1 : Nat) : Int) else some (⟨0, 0⟩, false)) :
    ∀ k i f, i + k = l.length → k < f → ∀ s : DFraction, Sm s → F f s.fNum s.fDen (i : Int) = some (outS (sumF s (l.drop i))) := by
  refine up (P := fun i f => ∀ s : DFraction, Sm s → F f s.fNum s.fDen (i : Int) = some (outS (sumF s (l.drop i)))) (fun f s _ => ?_) (fun i f hi ih s hs => ?_)
  · rw [hE, List.drop_of_length_le (Nat.le_refl _)]
    rfl
  · rw [hF f s i hi hs, List.drop_eq_getElem_cons hi, sumF]
    cases q : inB (addF s l[i])
    · rfl
    · rw [cond_true, if_pos rfl, ih _ (inB_sm q)]
theorem spSum {l : List DFraction} (hl : ∀ f ∈ l, VF f) (hn : l.length ≤ 1000) : F_spec_l01Sum l = some (outS (sumF zF l)) := by
  have := sum_loop (l := l) (F := F_spec_l01Sum_l1 l) (fun f n d => by rw [F_spec_l01Sum_l1.eq_2, dlt_f (by omega)]; rfl) (fun f s i hi hs => by
    have e : DFraction.mk s.fNum s.fDen = s := rfl
    rw [F_spec_l01Sum_l1.eq_2, dlt_t hi, cond_true, idx_nat hi, e, spAdd hs (hl _ (List.getElem_mem hi)).1, Option.bind_some, W_succ hi (by unfold maxLen; omega)]
    unfold res
    cases q : inB (addF s l[i]) <;> rfl) l.length 0 (l.length + 1) (by omega) (by omega) zF zF_valid.1
  exact this
theorem any_loop20 {l : List DFraction} (hn : l.length ≤ 1000) {F : Nat → Int → Option Int} {P : DFraction → Option Bool} (hF : ∀ f i, F (f + 1) i = bif decide (i < (l.length : Int)) then idx l i (fun x => (P x).bind fun b => bif b then some i else F f (IntKind.i64.wrap (i + 1))) else some (-1)) (hP : ∀ x, P x = some (!vF x)) : F (l.length + 1) 0 = some (fidx (fun x => !vF x) l) :=
  idxf_loop (F := F) (P := P) _ hF (by unfold maxLen; omega) (fun x _ => hP x)
theorem imNot1 (x : DFraction) : F_impl_areFractions_1 x = some (!vF x) := by unfold F_impl_areFractions_1; rw [imValid]; rfl
theorem imNot2 (x : DFraction) : F_impl_SumFractions_1 x = some (!vF x) := by unfold F_impl_SumFractions_1; rw [imValid]; rfl
theorem any_not {l : List DFraction} : l.any (fun x => !vF x) = !l.all vF := by rw [List.not_all_eq_any_not]
theorem imAre {l : List DFraction} (hn : l.length ≤ 6) : F_impl_areFractions l 6 = some (l.all vF) := by
  unfold F_impl_areFractions F_slices_ContainsFunc_impl_Fraction_impl_Fraction__impl_areFractions_1 F_slices_IndexFunc_impl_Fraction_impl_Fraction__impl_areFractions_1
  rw [decide_eq_true (by omega), cond_true, any_loop20 (l := l) (by omega) (F := F_slices_IndexFunc_impl_Fraction_impl_Fraction__impl_areFractions_1_l1 l) (P := F_impl_areFractions_1) (fun _ _ => rfl) imNot1]
  simp only [Option.bind_some]
  rw [fidx_ge, any_not, Bool.not_not]
theorem imSum {l : List DFraction} (hl : ∀ f ∈ l, VF f) (hn : l.length ≤ 20) : F_impl_SumFractions l = some (outS (sumF zF l)) := by
  unfold F_impl_SumFractions F_slices_ContainsFunc_impl_Fraction_impl_Fraction__impl_SumFractions_1 F_slices_IndexFunc_impl_Fraction_impl_Fraction__impl_SumFractions_1
  have hall : l.all vF = true := List.all_eq_true.2 fun f hf => vF_iff.2 (hl f hf)
  rw [decide_eq_false (by omega), cond_false, any_loop20 (l := l) (by omega) (F := F_slices_IndexFunc_impl_Fraction_impl_Fraction__impl_SumFractions_1_l1 l) (P := F_impl_SumFractions_1) (fun _ _ => rfl) imNot2]
  simp only [Option.bind_some]
  rw [fidx_ge, any_not, hall, Bool.not_true, cond_false]
  simp only [F_impl_whole, Option.bind_some]
  have := sum_loop (l := l) (F := F_impl_SumFractions_l1 l) (fun f n d => by rw [F_impl_SumFractions_l1.eq_2, dlt_f (by omega)]; rfl) (fun f s i hi hs => by
    have e : DFraction.mk s.fNum s.fDen = s := rfl
    have hf := hl _ (List.getElem_mem hi)
    obtain ⟨n, d, hd, e2⟩ := addF_fr hs hf.1
    rw [F_impl_SumFractions_l1.eq_2, dlt_t hi, cond_true, idx_nat hi, e, imPlus hs hf.1, Option.bind_some, e2, told_fr hd, Option.bind_some, W_succ hi (by unfold maxLen; omega)]
    unfold res
    cases q : inB (fr n d) <;> rfl) l.length 0 (l.length + 1) (by omega) (by omega) zF zF_valid.1
  exact this
theorem imSub {f g : DFraction} (hf : VF f) (hg : VF g) : F_impl_SubFractions f g = some (res (subF f g)) := by
  unfold F_impl_SubFractions
  obtain ⟨n, d, hd, e2⟩ := subF_fr hf.1 hg.1
  rw [imValid, imValid, vF_iff.2 hf, vF_iff.2 hg]
  simp only [Bool.not_true, cond_false, Option.bind_some]
  rw [imMinus hf.1 hg.1, Option.bind_some, e2, told_fr hd]
  rfl
end Go.FX
