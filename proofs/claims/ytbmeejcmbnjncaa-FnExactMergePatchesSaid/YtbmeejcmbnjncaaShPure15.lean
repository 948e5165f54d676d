/- The pure part: what the functions compute, in plain Lean, with no program in sight; no condition. -/
import Derived.Test.YtbmeejcmbnjncaaShPure8
namespace Go.FX
open Go Go.GL Go.RowKit
/-! two patches in one -/
theorem up_ext {α : Type} {k : α → Int} : ∀ {l m : List α}, l.Pairwise (fun a b => k a < k b) → m.Pairwise (fun a b => k a < k b) → (∀ x, x ∈ l ↔ x ∈ m) → l = m := by
  intro l
  induction l with
  | nil =>
    intro m _ _ h
    cases m with
    | nil => rfl
    | cons b m => exact absurd ((h b).2 (List.mem_cons_self ..)) (by simp)
  | cons a l ih =>
    intro m hl hm h
    cases m with
    | nil => exact absurd ((h a).1 (List.mem_cons_self ..)) (by simp)
    | cons b m =>
      rw [List.pairwise_cons] at hl hm
      have hab : a = b := by
        rcases List.mem_cons.1 ((h a).1 (List.mem_cons_self ..)) with e | h1
        · exact e
        · rcases List.mem_cons.1 ((h b).2 (List.mem_cons_self ..)) with e | h2
          · exact e.symm
          · have := hm.1 a h1; have := hl.1 b h2; omega
      subst hab
      rw [ih hl.2 hm.2 fun x => ?_]
      constructor
      · intro hx
        rcases List.mem_cons.1 ((h x).1 (List.mem_cons_of_mem _ hx)) with e | h1
        · have := hl.1 x hx; rw [e] at this; omega
        · exact h1
      · intro hx
        rcases List.mem_cons.1 ((h x).2 (List.mem_cons_of_mem _ hx)) with e | h1
        · have := hm.1 x hx; rw [e] at this; omega
        · exact h1
theorem key_inj {α : Type} {k : α → Int} {l : List α} (h : l.Pairwise (fun a b => k a ≠ k b)) {x y : α} (hx : x ∈ l) (hy : y ∈ l) (e : k x = k y) : x = y := by
  induction l with
  | nil => cases hx
  | cons a l ih =>
    rw [List.pairwise_cons] at h
    rcases List.mem_cons.1 hx with rfl | hx' <;> rcases List.mem_cons.1 hy with rfl | hy'
    · rfl
    · exact absurd e (h.1 y hy')
    · exact absurd e.symm (h.1 x hx')
    · exact ih h.2 hx' hy'
def mrgA (p q : List DEdit) (y : Int) : List DEdit := match fe p y with
  | some e => [e]
  | none => match fe q y with
    | some e => [e]
    | none => []
def mrg (p q : List DEdit) : List DEdit := (List.range 99).flatMap fun i => mrgA p q ((i + 1 : Nat) : Int)
theorem mrgA_len (p q : List DEdit) (y : Int) : (mrgA p q y).length ≤ 1 := by
  unfold mrgA
  split
  · simp
  · split <;> simp
theorem sp_mrg {p q : List DEdit} (hp : patchOk p = true) (hq : patchOk q = true) : F_spec_MergePatches_l1 p q (Int.toNat (99 - 1) + 2) [] 1 = bif decide (((mrg p q).length : Int) > 16) then some ([], false) else some (mrg p q, true) := by
  have hpl := pat_len hp
  have hql := pat_len hq
  have := app_loop (n := 99) (b := 1) (F := fun f acc i => F_spec_MergePatches_l1 p q f acc (i + 1)) (fun i => mrgA p q ((i + 1 : Nat) : Int)) (fun l => bif decide ((l.length : Int) > 16) then some ([], false) else some (l, true)) 0 (fun i _ => mrgA_len _ _ _) (fun f acc => ?_) (fun f acc i hi hacc => ?_) (m := 100) (acc := []) (by omega) (Nat.le_refl _)
  · exact this
  · show F_spec_MergePatches_l1 p q (f + 1) acc 100 = _
    rw [F_spec_MergePatches_l1.eq_2]; rfl
  · show F_spec_MergePatches_l1 p q (f + 1) acc ((i + 1 : Nat) : Int) = F_spec_MergePatches_l1 p q f _ ((i + 1 + 1 : Nat) : Int)
    have hk : (((fe p ((i + 1 : Nat) : Int)).getD noE).fKind == 0) = !(fe p ((i + 1 : Nat) : Int)).isSome := by
      rw [← fe_kind hp]
      cases h : ((fe p ((i + 1 : Nat) : Int)).getD noE).fKind == 0 <;> simp_all [bne]
    rw [F_spec_MergePatches_l1.eq_2, decide_eq_true (show ((i + 1 : Nat) : Int) ≤ 99 by omega), cond_true, spEditOf p _ (Nat.le_trans hpl (by decide)), Option.bind_some, hk, spEditOf q _ (Nat.le_trans hql (by decide)), Option.bind_some, fe_kind hp, fe_kind hq, W_succ (n := 1000) (i := i + 1) (by omega) (by decide)]
    unfold mrgA
    cases fe p ((i + 1 : Nat) : Int) with
    | some e => simp only [Option.isSome_some, Bool.not_true, cond_false, cond_true, Option.getD_some]; rw [app_ok (by simp; omega)]
    | none =>
      cases fe q ((i + 1 : Nat) : Int) with
      | some e => simp only [Option.isSome_some, Option.isSome_none, Bool.not_false, cond_true, Option.getD_some]; rw [app_ok (by simp; omega)]
      | none => simp only [Option.isSome_none, Bool.not_false, cond_true, cond_false, List.append_nil]
theorem mrg_mem {p q : List DEdit} (hp : patchOk p = true) (hq : patchOk q = true) {e : DEdit} : e ∈ mrg p q ↔ e ∈ p ∨ (e ∈ q ∧ fe p e.fId = none) := by
  unfold mrg
  rw [List.mem_flatMap]
  constructor
  · rintro ⟨i, hi, he⟩
    unfold mrgA at he
    split at he
    · rename_i a ha
      rw [List.mem_singleton.1 he]
      exact .inl (fe_mem ha).1
    · rename_i ha
      split at he
      · rename_i b hb
        rw [List.mem_singleton.1 he]
        obtain ⟨h1, h2⟩ := fe_mem hb
        exact .inr ⟨h1, by rw [h2]; exact ha⟩
      · cases he
  · intro h
    have hr : 1 ≤ e.fId ∧ e.fId ≤ 99 := by
      rcases h with h | h
      · exact ⟨(pat_ok hp h).1, (pat_ok hp h).2.1⟩
      · exact ⟨(pat_ok hq h.1).1, (pat_ok hq h.1).2.1⟩
    refine ⟨e.fId.toNat - 1, List.mem_range.2 (by omega), ?_⟩
    rw [show ((e.fId.toNat - 1 + 1 : Nat) : Int) = e.fId by omega]
    unfold mrgA
    rcases h with h | h
    · rw [fe_at (pat_pair hp) h]; exact List.mem_singleton.2 rfl
    · rw [h.2, fe_at (pat_pair hq) h.1]; exact List.mem_singleton.2 rfl
theorem mrgA_id {p q : List DEdit} {y : Int} {e : DEdit} (h : e ∈ mrgA p q y) : e.fId = y := by
  unfold mrgA at h
  split at h
  · rename_i a ha
    rw [List.mem_singleton.1 h]; exact (fe_mem ha).2
  · split at h
    · rename_i b hb
      rw [List.mem_singleton.1 h]; exact (fe_mem hb).2
    · cases h
theorem mrg_pair (p q : List DEdit) : (mrg p q).Pairwise (fun a b => a.fId < b.fId) := by
  unfold mrg
  rw [List.pairwise_flatMap]
  constructor
  · intro i _
    have := mrgA_len p q ((i + 1 : Nat) : Int)
    generalize mrgA p q ((i + 1 : Nat) : Int) = l at this
    cases l with
    | nil => exact List.Pairwise.nil
    | cons a l =>
      cases l with
      | nil => exact List.pairwise_singleton _ _
      | cons b l => simp at this
  · refine List.pairwise_lt_range.imp fun h x hx y hy => ?_
    rw [mrgA_id hx, mrgA_id hy]
    omega
theorem cmp_val {x y : DEdit} (hx : 1 ≤ x.fId ∧ x.fId ≤ 99) (hy : 1 ≤ y.fId ∧ y.fId ≤ 99) : (F_impl_MergePatches_1 x y).getD 0 = x.fId - y.fId := by
  unfold F_impl_MergePatches_1
  rw [Option.getD_some, W_id (by omega) (by omega)]
theorem merge_sorts {l : List DEdit} (hl : l.length ≤ 100) (hr : ∀ e ∈ l, 1 ≤ e.fId ∧ e.fId ≤ 99) (hn : l.Pairwise (fun a b => a.fId ≠ b.fId)) : ∃ r, sortG F_impl_MergePatches_1 l = some r ∧ r.Perm l ∧ r.Pairwise (fun a b => a.fId < b.fId) := by
  have hg : goodCmp F_impl_MergePatches_1 l := by
    refine ⟨by omega, hn.imp fun h e => h (by rw [e]), fun _ _ _ _ => rfl, fun x hx => ?_, fun x hx y hy z hz h1 h2 => ?_, fun x hx y hy z hz h1 h2 => ?_, fun x hx y hy h1 h2 => ?_⟩
    · rw [cmp_val (hr x hx) (hr x hx)]; omega
    · rw [cmp_val (hr x hx) (hr y hy)] at h1
      rw [cmp_val (hr y hy) (hr z hz)] at h2
      rw [cmp_val (hr x hx) (hr z hz)]; omega
    · rw [cmp_val (hr x hx) (hr y hy)] at h1
      rw [cmp_val (hr y hy) (hr z hz)] at h2
      rw [cmp_val (hr x hx) (hr z hz)]; omega
    · rw [cmp_val (hr x hx) (hr y hy)] at h1
      rw [cmp_val (hr y hy) (hr x hx)] at h2
      exact key_inj hn hx hy (by omega)
  refine ⟨_, sortG_ok hg, List.mergeSort_perm _ _, ?_⟩
  have hc : l.mergeSort (fun x y => !decide ((F_impl_MergePatches_1 y x).getD 0 < 0)) = l.mergeSort (fun x y => decide (x.fId ≤ y.fId)) := by
    have := List.map_mergeSort (l := l) (f := id) (r := fun x y => !decide ((F_impl_MergePatches_1 y x).getD 0 < 0)) (s := fun x y => decide (x.fId ≤ y.fId)) (fun a ha b hb => by
      simp only [id]
      rw [cmp_val (hr b hb) (hr a ha)]
      by_cases h : a.fId ≤ b.fId
      · rw [decide_eq_true h, decide_eq_false (by omega)]; rfl
      · rw [decide_eq_false h, decide_eq_true (by omega)]; rfl)
    rwa [List.map_id, List.map_id] at this
  rw [hc]
  have h1 : (l.mergeSort fun x y => decide (x.fId ≤ y.fId)).Pairwise (fun a b => a.fId ≤ b.fId) :=
    (List.pairwise_mergeSort (le := fun x y : DEdit => decide (x.fId ≤ y.fId)) (fun a b c h1 h2 => by simp at *; omega) (fun a b => by simp; omega) l).imp fun h => by simpa using h
  have h2 : (l.mergeSort fun x y => decide (x.fId ≤ y.fId)).Pairwise (fun a b => a.fId ≠ b.fId) := (List.mergeSort_perm _ _).pairwise_iff (fun h => Ne.symm h) |>.2 hn
  exact (h1.and h2).imp fun h => by omega
theorem reb_val {p q : List DEdit} (h1 : smP p) (h2 : smP q) (q1 : patchOk p = true) (q2 : patchOk q = true) : ∃ r : List Int, F_spec_l07Conflicts p q = some r ∧ (r ≠ [] → F_impl_RebasePatch p q = some ([], false)) ∧ (r = [] → F_impl_RebasePatch p q = some (q.filter (fun e => !(fe p e.fId).isSome), true)) := by
  obtain ⟨r, e1, e2, e3, e4⟩ := conf2 p q (pat_len q1) q2
  have hpl := pat_len q1; have hql := pat_len q2
  unfold F_impl_RebasePatch
  rw [imPatch p h1.1 h1.2, imPatch q h2.1 h2.2, q1, q2]
  simp only [Option.bind_some, Bool.not_true, cond_false]
  rw [e2]
  refine ⟨r, e1, fun hr => ?_, fun hr => ?_⟩
  · have : decide ((r.length : Int) > 0) = true := decide_eq_true (by have := List.length_pos_iff.2 hr; omega)
    simp only [Option.bind_some, this, cond_true]
  · have h0 : decide ((r.length : Int) > 0) = false := by rw [hr]; rfl
    simp only [Option.bind_some, h0, cond_false]
    rw [app_ok (by simp; omega), List.nil_append, im_del p q (Nat.le_trans hpl (by decide)) (by omega), Option.bind_some]
    have hfe : q.filter (fun e => !(fe p e.fId).isSome) = q.filter (fun e => !inP p e) := List.filter_congr fun e he => by
      congr 1
      cases hx : fe p e.fId with
      | none =>
        symm
        unfold inP
        rw [Option.isSome_none, List.any_eq_false]
        intro x hx2 hc
        have hxe : e = x := by simpa using hc
        subst hxe
        rw [fe_at (pat_pair q1) hx2] at hx
        cases hx
      | some a =>
        obtain ⟨ha1, ha2⟩ := fe_mem hx
        have h9 := e4 hr a ha1 e (by rw [ha2]; exact fe_at (pat_pair q2) he)
        symm
        unfold inP
        rw [Option.isSome_some, List.any_eq_true]
        exact ⟨a, ha1, by rw [h9]; exact beq_self_eq_true _⟩
    rw [hfe]
theorem eqMerge (p q : List DEdit) (h1 : smP p) (h2 : smP q) : ∃ r, F_spec_MergePatches p q = some r ∧ F_impl_MergePatches p q = some r ∧ r.1.length ≤ 1048576 := by
  unfold F_spec_MergePatches F_impl_MergePatches
  rw [spPatch p h1.1 h1.2]
  simp only [Option.bind_some]
  cases q1 : patchOk p
  · refine ⟨([], false), rfl, ?_, by simp⟩
    unfold F_impl_RebasePatch
    rw [imPatch p h1.1 h1.2, q1]; rfl
  · rw [spPatch q h2.1 h2.2]
    cases q2 : patchOk q
    · refine ⟨([], false), rfl, ?_, by simp⟩
      unfold F_impl_RebasePatch
      rw [imPatch p h1.1 h1.2, q1, imPatch q h2.1 h2.2, q2]; rfl
    · obtain ⟨r, e1, e2, e3⟩ := reb_val h1 h2 q1 q2
      simp only [Bool.not_true, cond_false, Option.bind_some]
      rw [e1]
      simp only [Option.bind_some]
      by_cases hr : r = []
      · have h0 : decide ((r.length : Int) > 0) = false := by rw [hr]; rfl
        rw [h0, cond_false, e3 hr, Option.bind_some, sp_mrg q1 q2]
        have hpl := pat_len q1; have hql := pat_len q2
        have hfl := List.length_filter_le (fun e => !(fe p e.fId).isSome) q
        have hmem : ∀ e, e ∈ p ++ q.filter (fun e => !(fe p e.fId).isSome) ↔ e ∈ p ∨ (e ∈ q ∧ fe p e.fId = none) := fun e => by
          rw [List.mem_append, List.mem_filter]
          simp
        have hrg : ∀ e ∈ p ++ q.filter (fun e => !(fe p e.fId).isSome), 1 ≤ e.fId ∧ e.fId ≤ 99 := fun e he => by
          rcases (hmem e).1 he with h | h
          · exact ⟨(pat_ok q1 h).1, (pat_ok q1 h).2.1⟩
          · exact ⟨(pat_ok q2 h.1).1, (pat_ok q2 h.1).2.1⟩
        have hnn : (p ++ q.filter (fun e => !(fe p e.fId).isSome)).Pairwise (fun a b => a.fId ≠ b.fId) := by
          rw [List.pairwise_append]
          refine ⟨(pat_pair q1).imp fun h => by omega, ((pat_pair q2).sublist List.filter_sublist).imp fun h => by omega, fun a ha b hb e => ?_⟩
          have := ((hmem b).1 (List.mem_append_right _ hb))
          have hbn : fe p b.fId = none := by
            have := (List.mem_filter.1 hb).2
            simpa using this
          rw [← e, fe_at (pat_pair q1) ha] at hbn
          cases hbn
        obtain ⟨s, s1, s2, s3⟩ := merge_sorts (by rw [List.length_append]; omega) hrg hnn
        have hs : s = mrg p q := up_ext s3 (mrg_pair p q) fun x => by rw [s2.mem_iff, hmem, mrg_mem q1 q2]
        have hlen : (mrg p q).length = p.length + (q.filter (fun e => !(fe p e.fId).isSome)).length := by rw [← hs, s2.length_eq, List.length_append]
        have hw : IntKind.i64.wrap ((p.length : Int) + ((q.filter (fun e => !(fe p e.fId).isSome)).length : Int)) = ((mrg p q).length : Int) := by rw [W_id (by omega) (by omega), hlen]; omega
        rw [hw]
        simp only [Bool.not_true, Bool.false_or]
        by_cases hd : ((mrg p q).length : Int) > 16
        · rw [decide_eq_true hd]; exact ⟨_, rfl, rfl, by simp⟩
        · rw [decide_eq_false hd, cond_false, cond_false, app_ok (by simp; omega), List.nil_append, app_ok (by omega)]
          unfold F_slices_SortFunc_impl_Edit_impl_Edit__impl_MergePatches_1
          rw [s1, Option.bind_some, hs]
          exact ⟨_, rfl, rfl, by show (mrg p q).length ≤ 1048576; omega⟩
      · have h0 : decide ((r.length : Int) > 0) = true := decide_eq_true (by have := List.length_pos_iff.2 hr; omega)
        rw [h0, cond_true, e2 hr]
        exact ⟨_, rfl, rfl, by simp⟩
end Go.FX
