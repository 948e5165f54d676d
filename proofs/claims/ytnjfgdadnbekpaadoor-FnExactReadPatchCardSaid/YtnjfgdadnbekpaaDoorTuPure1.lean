/- The pure part: what the functions compute, in plain Lean, with no program in sight; no condition. -/
import Derived.Test.YtnjfgdadnbekpaaDoorTuEq
import Derived.Test.YtnjfgdadnbekpaaDoorTuLib2
namespace Go.FX
open Go Go.GL Go.RowKit

/-! sentences -/
def okc (c : UInt8) : Bool := (Nat.ble 97 c.toNat && Nat.ble c.toNat 122) || (Nat.ble 48 c.toNat && Nat.ble c.toNat 57) || Nat.beq c.toNat 32
set_option maxRecDepth 100000 in
theorem okc_eq (c : UInt8) : (bif (decide ((c.toNat : Int) ≥ 97)) then ((!(decide ((c.toNat : Int) ≤ 122))) && (bif (decide ((c.toNat : Int) ≥ 48)) then ((!(decide ((c.toNat : Int) ≤ 57))) && (!((c.toNat : Int) == 32))) else (!((c.toNat : Int) == 32)))) else (bif (decide ((c.toNat : Int) ≥ 48)) then ((!(decide ((c.toNat : Int) ≤ 57))) && (!((c.toNat : Int) == 32))) else (!((c.toNat : Int) == 32)))) = !okc c := by
  have h : ∀ n : Fin 256, (bif (decide ((n.val : Int) ≥ 97)) then ((!(decide ((n.val : Int) ≤ 122))) && (bif (decide ((n.val : Int) ≥ 48)) then ((!(decide ((n.val : Int) ≤ 57))) && (!((n.val : Int) == 32))) else (!((n.val : Int) == 32)))) else (bif (decide ((n.val : Int) ≥ 48)) then ((!(decide ((n.val : Int) ≤ 57))) && (!((n.val : Int) == 32))) else (!((n.val : Int) == 32)))) = !((Nat.ble 97 n.val && Nat.ble n.val 122) || (Nat.ble 48 n.val && Nat.ble n.val 57) || Nat.beq n.val 32) := by decide
  exact h c.toFin
def endsOk (t : Bytes) : Bool := match t[0]?, t[t.length - 1]? with
  | some a, some b => !(Nat.beq a.toNat 32) && !(Nat.beq b.toNat 32)
  | _, _ => false
def sent (t : Bytes) : Bool := decide (1 ≤ t.length) && decide (t.length ≤ 24) && endsOk t && t.all okc
theorem spSentence_l1 (t : Bytes) (hl : t.length ≤ maxLen) : ∀ k i f, i + k = t.length → k < f → F_spec_l07Sentence_l1 t f i = some ((t.drop i).all okc) := by
  refine up (P := fun i f => F_spec_l07Sentence_l1 t f i = some ((t.drop i).all okc)) (fun f => ?_) (fun i f hi ih => ?_)
  · rw [F_spec_l07Sentence_l1.eq_2, dlt_f (by omega), cond_false]; simp
  · rw [F_spec_l07Sentence_l1.eq_2, dlt_t hi, cond_true, idx_nat hi, okc_eq, W_succ hi hl, ih, List.drop_eq_getElem_cons hi, List.all_cons]
    cases okc t[i] <;> rfl
theorem beq32 {n : Nat} : ((n : Int) == 32) = Nat.beq n 32 := beq_nat 32
theorem bne32 {n : Nat} : ((n : Int) != 32) = !Nat.beq n 32 := bne_nat 32
theorem spSentence (t : Bytes) (hl : t.length ≤ maxLen) : F_spec_l07Sentence t = some (sent t) := by
  unfold F_spec_l07Sentence sent
  have h1 := spSentence_l1 t hl t.length 0 (t.length + 1) (by omega) (by omega)
  rw [show ((0 : Nat) : Int) = 0 from rfl] at h1
  rw [h1, List.drop_zero]
  by_cases ha : 1 ≤ t.length
  · rw [show decide ((t.length : Int) < 1) = false from decide_eq_false (by omega), cond_false, show decide (1 ≤ t.length) = true from decide_eq_true (by omega)]
    by_cases hb : t.length ≤ 24
    · rw [show decide ((t.length : Int) > 24) = false from decide_eq_false (by omega), cond_false, show decide (t.length ≤ 24) = true from decide_eq_true (by omega), idx0 (by omega), W_pred ha hl, idx_nat (by omega), beq32, beq32]
      rw [show endsOk t = (!(Nat.beq t[0].toNat 32) && !(Nat.beq (t[t.length - 1]'(by omega)).toNat 32)) by unfold endsOk; rw [List.getElem?_eq_getElem (by omega), List.getElem?_eq_getElem (by omega)]]
      cases Nat.beq t[0].toNat 32 <;> cases Nat.beq (t[t.length - 1]'(by omega)).toNat 32 <;> rfl
    · rw [show decide ((t.length : Int) > 24) = true from decide_eq_true (by omega), show decide (t.length ≤ 24) = false from decide_eq_false (by omega)]; rfl
  · rw [show decide ((t.length : Int) < 1) = true from decide_eq_true (by omega), show decide (1 ≤ t.length) = false from decide_eq_false (by omega)]; rfl
theorem imok (c : UInt8) {β : Type} (A B : Option β) : (Option.bind (bif (decide ((c.toNat : Int) < 97)) then (
    bif (decide ((c.toNat : Int) < 48)) then (
    some ((c.toNat : Int) != 32)) else (
    bif (decide ((c.toNat : Int) > 57)) then (
    some ((c.toNat : Int) != 32)) else (
    some false))) else (
    bif (decide ((c.toNat : Int) > 122)) then (
    bif (decide ((c.toNat : Int) < 48)) then (
    some ((c.toNat : Int) != 32)) else (
    bif (decide ((c.toNat : Int) > 57)) then (
    some ((c.toNat : Int) != 32)) else (
    some false))) else (
    some false))) fun q => bif q then A else B) = bif okc c then B else A := by
  have h : ∀ n : Fin 256, (bif (decide ((n.val : Int) < 97)) then (
    bif (decide ((n.val : Int) < 48)) then (
    some ((n.val : Int) != 32)) else (
    bif (decide ((n.val : Int) > 57)) then (
    some ((n.val : Int) != 32)) else (
    some false))) else (
    bif (decide ((n.val : Int) > 122)) then (
    bif (decide ((n.val : Int) < 48)) then (
    some ((n.val : Int) != 32)) else (
    bif (decide ((n.val : Int) > 57)) then (
    some ((n.val : Int) != 32)) else (
    some false))) else (
    some false))) = some (!((Nat.ble 97 n.val && Nat.ble n.val 122) || (Nat.ble 48 n.val && Nat.ble n.val 57) || Nat.beq n.val 32)) := by decide +kernel
  have := h c.toFin
  refine (congrArg (fun o => Option.bind o fun q => bif q then A else B) this).trans ?_
  show (bif !okc c then A else B) = _
  cases okc c <;> rfl
theorem imSentence_l1 (t : Bytes) (hl : t.length ≤ maxLen) : ∀ k i f, i + k = t.length → k < f → F_impl_isSentence_l1 t f i = some (bif (t.drop i).all okc then Sum.inr () else Sum.inl false) := by
  refine up (P := fun i f => F_impl_isSentence_l1 t f i = some (bif (t.drop i).all okc then Sum.inr () else Sum.inl false)) (fun f => ?_) (fun i f hi ih => ?_)
  · rw [F_impl_isSentence_l1.eq_2, dlt_f (by omega), cond_false]; simp
  · rw [F_impl_isSentence_l1.eq_2, dlt_t hi, cond_true]
    simp only [idx_nat hi]
    rw [imok, W_succ hi hl, ih, List.drop_eq_getElem_cons hi, List.all_cons]
    cases okc t[i] <;> rfl
theorem imSentence (t : Bytes) (hl : t.length ≤ maxLen) : F_impl_isSentence t = some (sent t) := by
  unfold F_impl_isSentence sent
  have h1 := imSentence_l1 t hl t.length 0 (t.length + 1) (by omega) (by omega)
  rw [show ((0 : Nat) : Int) = 0 from rfl] at h1
  rw [h1, List.drop_zero, Option.bind_some]
  cases ho : t.all okc
  · simp [sumK]
  · show Option.bind (bif _ then _ else _) _ = _
    by_cases ha : 1 ≤ t.length
    · rw [show decide ((t.length : Int) ≥ 1) = true from decide_eq_true (by omega), cond_true, show decide (1 ≤ t.length) = true from decide_eq_true (by omega)]
      by_cases hb : t.length ≤ 24
      · rw [show decide ((t.length : Int) ≤ 24) = true from decide_eq_true (by omega), cond_true, show decide (t.length ≤ 24) = true from decide_eq_true (by omega), idx0 (by omega), W_pred ha hl, idx_nat (by omega), bne32, bne32]
        rw [show endsOk t = (!(Nat.beq t[0].toNat 32) && !(Nat.beq (t[t.length - 1]'(by omega)).toNat 32)) by unfold endsOk; rw [List.getElem?_eq_getElem (by omega), List.getElem?_eq_getElem (by omega)]]
        cases Nat.beq t[0].toNat 32 <;> cases Nat.beq (t[t.length - 1]'(by omega)).toNat 32 <;> rfl
      · rw [show decide ((t.length : Int) ≤ 24) = false from decide_eq_false (by omega), show decide (t.length ≤ 24) = false from decide_eq_false (by omega)]; rfl
    · rw [show decide ((t.length : Int) ≥ 1) = false from decide_eq_false (by omega), show decide (1 ≤ t.length) = false from decide_eq_false (by omega)]; rfl

/-! edits -/
def within (x a b : Int) : Bool := decide (a ≤ x) && decide (x ≤ b)
theorem spIn (x a b : Int) : F_spec_l00In x a b = some (within x a b) := rfl
theorem imIn (x a b : Int) : F_impl_within x a b = some (within x a b) := rfl
def editOk (e : DEdit) : Bool := bif e.fKind == 1 then (e.fOld == []) && sent e.fNew else bif e.fKind == 2 then sent e.fOld && (e.fNew == []) else bif e.fKind == 3 then sent e.fOld && sent e.fNew && (e.fOld != e.fNew) else false
def smE (e : DEdit) : Prop := e.fOld.length ≤ maxLen ∧ e.fNew.length ≤ maxLen
theorem spEdit (e : DEdit) (h : smE e) : F_spec_l07Edit e = some (editOk e) := by
  unfold F_spec_l07Edit editOk
  simp only [spSentence _ h.1, spSentence _ h.2, Option.bind_some]
  generalize (e.fOld == []) = p, (e.fNew == []) = q, (e.fOld != e.fNew) = r
  cases e.fKind == 1 <;> cases e.fKind == 2 <;> cases e.fKind == 3 <;> cases sent e.fOld <;> cases sent e.fNew <;> cases p <;> cases q <;> cases r <;> rfl
theorem imEdit (e : DEdit) (h : smE e) : F_impl_isEdit e = some (within e.fId 1 99 && editOk e) := by
  unfold F_impl_isEdit editOk
  simp only [imIn, imSentence _ h.1, imSentence _ h.2, Option.bind_some]
  generalize (e.fOld == []) = p, (e.fNew == []) = q, (e.fOld != e.fNew) = r
  cases within e.fId 1 99 <;> cases e.fKind == 1 <;> cases e.fKind == 2 <;> cases e.fKind == 3 <;> cases sent e.fOld <;> cases sent e.fNew <;> cases p <;> cases q <;> cases r <;> rfl
def patchC (l : List DEdit) (i : Nat) : Bool := match l[i]? with
  | some e => within e.fId 1 99 && editOk e && pairAt (fun a b => decide (a.fId < b.fId)) l i
  | none => false
theorem patchC_at {l : List DEdit} {i : Nat} (hi : i < l.length) : patchC l i = (within l[i].fId 1 99 && editOk l[i] && pairAt (fun a b => decide (a.fId < b.fId)) l i) := by
  unfold patchC
  rw [List.getElem?_eq_getElem hi]
def patchOk (l : List DEdit) : Bool := decide (∀ i, i < l.length → patchC l i = true) && decide (l.length ≤ 16)
theorem not_ge (a b : Int) : decide (a ≥ b) = !decide (a < b) := by
  by_cases h : a < b
  · rw [decide_eq_true h, decide_eq_false (by omega)]; rfl
  · rw [decide_eq_false h, decide_eq_true (by omega)]; rfl
theorem spPatch (l : List DEdit) (hl : l.length ≤ maxLen) (hg : ∀ e ∈ l, smE e) : F_spec_l07Patch l = some (patchOk l) := by
  unfold F_spec_l07Patch patchOk
  rw [show decide (l.length ≤ 16) = decide ((l.length : Int) ≤ 16) by rw [decide_eq_decide]; omega]
  refine all_loop (F := F_spec_l07Patch_l1 l) (patchC l) (fun f => by rw [F_spec_l07Patch_l1.eq_2, dlt_f (by omega)]; rfl) (fun i f hi => ?_)
  rw [F_spec_l07Patch_l1.eq_2, dlt_t hi, cond_true]
  simp only [idx_nat hi, spIn, spEdit _ (hg _ (List.getElem_mem hi)), Option.bind_some, W_succ hi hl]
  rw [pair_code (R := fun a b => decide (a.fId < b.fId)) hi hl (fun x _ => by rw [not_ge])]
  rw [patchC_at hi]
  cases within l[i].fId 1 99 <;> cases editOk l[i] <;> cases pairAt (fun a b => decide (a.fId < b.fId)) l i <;> rfl
theorem imPatch (l : List DEdit) (hl : l.length ≤ maxLen) (hg : ∀ e ∈ l, smE e) : F_impl_ValidPatch l = some (patchOk l) := by
  unfold F_impl_ValidPatch patchOk
  rw [show decide (l.length ≤ 16) = decide ((l.length : Int) ≤ 16) by rw [decide_eq_decide]; omega]
  refine all_loop (F := F_impl_ValidPatch_l1 l) (patchC l) (fun f => by rw [F_impl_ValidPatch_l1.eq_2, dlt_f (by omega)]; rfl) (fun i f hi => ?_)
  rw [F_impl_ValidPatch_l1.eq_2, dlt_t hi, cond_true]
  simp only [idx_nat hi, imEdit _ (hg _ (List.getElem_mem hi)), Option.bind_some, W_succ hi hl]
  rw [pair_code (R := fun a b => decide (a.fId < b.fId)) hi hl (fun x _ => by rw [not_ge])]
  rw [patchC_at hi]
  cases within l[i].fId 1 99 <;> cases editOk l[i] <;> cases pairAt (fun a b => decide (a.fId < b.fId)) l i <;> rfl
/-! acts -/
end Go.FX
