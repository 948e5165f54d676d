/- The pure part: what the functions compute, in plain Lean, with no program in sight; no condition. -/
import Derived.Test.YtmeeomkjjnlaoaaRlPure14
namespace Go.FX
open Go Go.GL Go.RowKit
/-! the locked duels -/
def edgeAt (D : List DDuel) (lk : List Bool) (a b : Int) (j : Nat) : Bool := match D[j]?, lk[j]? with
  | some d, some l => l && (d.fFirst == a && d.fSecond == b)
  | _, _ => false
def lockE (D : List DDuel) (lk : List Bool) (a b : Int) : Bool := (List.range lk.length).any (edgeAt D lk a b)
theorem edgeAt_at {D : List DDuel} {lk : List Bool} {a b : Int} {j : Nat} (h1 : j < D.length) (h2 : j < lk.length) : edgeAt D lk a b j = (lk[j] && (D[j].fFirst == a && D[j].fSecond == b)) := by
  unfold edgeAt
  rw [List.getElem?_eq_getElem h1, List.getElem?_eq_getElem h2]
theorem lockE_snoc {D : List DDuel} {lk : List Bool} {a b : Int} {c : Bool} (h : lk.length < D.length) : lockE D (lk ++ [c]) a b = (lockE D lk a b || (c && (D[lk.length].fFirst == a && D[lk.length].fSecond == b))) := by
  unfold lockE
  rw [List.length_append, List.length_singleton, List.range_succ, List.any_append]
  congr 1
  · rw [Bool.eq_iff_iff, List.any_eq_true, List.any_eq_true]
    have key : ∀ j, j < lk.length → edgeAt D (lk ++ [c]) a b j = edgeAt D lk a b j := fun j hj => by
      rw [edgeAt_at (by omega) (by simp; omega), edgeAt_at (by omega) hj, List.getElem_append_left hj]
    constructor
    · rintro ⟨j, hj, hb⟩; exact ⟨j, hj, by rw [← key j (List.mem_range.1 hj)]; exact hb⟩
    · rintro ⟨j, hj, hb⟩; exact ⟨j, hj, by rw [key j (List.mem_range.1 hj)]; exact hb⟩
  · rw [List.any_cons, List.any_nil, Bool.or_false, edgeAt_at h (by simp)]
    simp
def lockM (D : List DDuel) (lk : List Bool) (a b : Nat) : Int := if lockE D lk (a : Int) (b : Int) = true then 1 else 0
theorem lnk_lock {D : List DDuel} {lk : List Bool} {a b : Nat} : lnk (lockM D lk) a b = lockE D lk (a : Int) (b : Int) := by
  unfold lnk lockM
  cases lockE D lk (a : Int) (b : Int)
  · rfl
  · rfl
theorem imLink {D : List DDuel} {lk : List Bool} (hl : lk.length ≤ D.length) (hD : D.length ≤ 1000) (a b : Int) : F_impl_circle_1 a b D (GInt.mk (lk.length : Int)) lk = some (lockE D lk a b) := by
  have hv : List.drop (Int.toNat 0) (List.take (Int.toNat (GInt.mk (lk.length : Int)).v) D) = D.take lk.length := by
    show List.drop 0 (List.take (Int.toNat (lk.length : Int)) D) = _
    rw [List.drop_zero, Int.toNat_natCast]
  have hlen : (D.take lk.length).length = lk.length := by rw [List.length_take]; omega
  have key := up (n := lk.length) (P := fun i f => F_impl_circle_1_l1 (GInt.mk (lk.length : Int)) D lk a b f (i : Int) = some (((List.range lk.length).drop i).any (edgeAt D lk a b))) (fun f => ?_) (fun i f hi ih => ?_) lk.length 0 (lk.length + 1) (by omega) (by omega)
  · unfold F_impl_circle_1
    refine Eq.trans (sub_ok0 (j := lk.length) hl) ?_
    rw [hv, hlen]
    exact key
  · rw [F_impl_circle_1_l1.eq_2, hv, hlen, dlt_f (by omega), List.drop_of_length_le (by simp)]; rfl
  · have hiD : i < D.length := by omega
    have hiv : i < (D.take lk.length).length := by omega
    rw [F_impl_circle_1_l1.eq_2, hv, hlen, dlt_t hi, cond_true, idx_nat hiv, idx_nat hi, W_succ hi (by unfold maxLen; omega), ih, List.drop_eq_getElem_cons (i := i) (l := List.range lk.length) (by simpa using hi), List.any_cons, List.getElem_range, edgeAt_at hiD hi, List.getElem_take]
    cases lk[i]
    · rfl
    · cases D[i].fFirst == a
      · rfl
      · cases D[i].fSecond == b <;> rfl
def Ranked (n : Nat) (D : List DDuel) (lk : List Bool) : Prop := ∃ rk : Nat → Nat, ∀ a b, a < n → b < n → lockE D lk (a : Int) (b : Int) = true → rk a < rk b
def DOk (n : Nat) (D : List DDuel) : Prop := ∀ d ∈ D, ∃ a b : Nat, a < n ∧ b < n ∧ a ≠ b ∧ d.fFirst = (a : Int) ∧ d.fSecond = (b : Int)
open Classical in
theorem ranked_snoc {n : Nat} {D : List DDuel} {lk : List Bool} {a b : Nat} (hl : lk.length < D.length) (e1 : D[lk.length].fFirst = (a : Int)) (e2 : D[lk.length].fSecond = (b : Int)) (ha : a < n) (hb : b < n) (hR : ¬ Reach n (lnk (lockM D lk)) b a) (h : Ranked n D lk) : Ranked n D (lk ++ [true]) := by
  obtain ⟨rk, hrk⟩ := h
  have hM : ∀ x, x < n → rk x < ((List.range n).map rk).sum + 1 := fun x hx => by
    have := le_sum (w := rk) (l := List.range n) (List.mem_range.2 hx)
    omega
  refine ⟨fun x => if Reach n (lnk (lockM D lk)) b x then rk x + (((List.range n).map rk).sum + 1) else rk x, fun x y hx hy he => ?_⟩
  show (if Reach n (lnk (lockM D lk)) b x then rk x + (((List.range n).map rk).sum + 1) else rk x) < (if Reach n (lnk (lockM D lk)) b y then rk y + (((List.range n).map rk).sum + 1) else rk y)
  rw [lockE_snoc hl, Bool.or_eq_true] at he
  rcases he with he | he
  · have h1 := hrk x y hx hy he
    by_cases hrx : Reach n (lnk (lockM D lk)) b x
    · rw [if_pos hrx, if_pos (hrx.step hx hy (by rw [lnk_lock]; exact he))]; omega
    · rw [if_neg hrx]
      split <;> omega
  · rw [Bool.true_and, Bool.and_eq_true, beq_iff_eq, beq_iff_eq, e1, e2] at he
    have hxa : x = a := by omega
    have hyb : y = b := by omega
    subst hxa; subst hyb
    rw [if_neg hR, if_pos Reach.refl]
    have := hM x hx
    omega
theorem ranked_same {n : Nat} {D : List DDuel} {lk : List Bool} (hl : lk.length < D.length) (h : Ranked n D lk) : Ranked n D (lk ++ [false]) := by
  obtain ⟨rk, hrk⟩ := h
  refine ⟨rk, fun x y hx hy he => hrk x y hx hy ?_⟩
  rw [lockE_snoc hl, Bool.false_and, Bool.or_false] at he
  exact he
theorem locks_loop {n : Nat} {D : List DDuel} {p : DProfile} (h6 : n ≤ 6) (hopt : F_impl_Profile_options p = some (n : Int)) (hD : DOk n D) (hlen : D.length ≤ 100) : ∀ m i f, i + m = D.length → m < f → ∀ (lk : List Bool) (cs : List (List Int)), lk.length = i → cs.length = i → Ranked n D lk →
    ∃ res cs', F_spec_l06Lock_l1 D f lk cs (mat n (lockM D lk)) (i : Int) = some (res, cs') ∧ F_impl_Profile_locks_l1 D p f lk (i : Int) = some res ∧ res.length = D.length ∧ Ranked n D res := by
  refine up (P := fun i f => ∀ (lk : List Bool) (cs : List (List Int)), lk.length = i → cs.length = i → Ranked n D lk →
    ∃ res cs', F_spec_l06Lock_l1 D f lk cs (mat n (lockM D lk)) (i : Int) = some (res, cs') ∧ F_impl_Profile_locks_l1 D p f lk (i : Int) = some res ∧ res.length = D.length ∧ Ranked n D res) (fun f lk cs h1 h2 h3 => ?_) (fun i f hi ih lk cs h1 h2 h3 => ?_)
  · rw [F_spec_l06Lock_l1.eq_2, F_impl_Profile_locks_l1.eq_2, dlt_f (by omega)]
    exact ⟨lk, cs, rfl, rfl, h1, h3⟩
  · obtain ⟨a, b, ha, hb, hab, ea, eb⟩ := hD _ (List.getElem_mem hi)
    obtain ⟨φ, r, s1, s2, s3⟩ := spShort (Lk := lockM D lk) h6 ha hb
    obtain ⟨res1, t1, t2⟩ := imShort (Lk := lockM D lk) (D := D) (g := GInt.mk (lk.length : Int)) (lk := lk) (fr := b) (to := a) (fun x y _ _ => by rw [imLink (by omega) (by omega), lnk_lock]) h6 s2 hb (Ne.symm hab)
    have hcirc : F_impl_circle (n : Int) D lk (i : Int) = some res1 := by
      unfold F_impl_circle
      rw [idx_nat hi, idx_nat hi, ea, eb, ← h1, t1]; rfl
    have hemp : List.isEmpty res1 = ((r.length : Int) == 0) := by
      rw [Bool.eq_iff_iff, List.isEmpty_iff, t2, beq_iff_eq, ← s3]
      constructor
      · intro h; rw [h]; rfl
      · intro h; exact List.length_eq_zero_iff.1 (by omega)
    rw [F_spec_l06Lock_l1.eq_2, F_impl_Profile_locks_l1.eq_2, dlt_t hi, cond_true, cond_true, idx_nat hi, idx_nat hi, ea, eb, s1, Option.bind_some, hopt, Option.bind_some, hcirc, Option.bind_some, hemp, app_ok (by simp; omega), app_ok (by simp; omega), app_ok (by simp; omega), W_succ hi (by unfold maxLen; omega)]
    have hil : lk.length < D.length := by omega
    have ea' : D[lk.length].fFirst = (a : Int) := by simp only [h1]; exact ea
    have eb' : D[lk.length].fSecond = (b : Int) := by simp only [h1]; exact eb
    cases hz : (r.length : Int) == 0 with
    | true =>
      have hφ : φ b < 0 := s3.1 (List.length_eq_zero_iff.1 (by have := beq_iff_eq.1 hz; omega))
      have hset : List.set (mat n (lockM D lk)) (Int.toNat (a : Int)) (List.set (tab n (lockM D lk a)) (Int.toNat (b : Int)) 1) = mat n (lockM D (lk ++ [true])) := by
        rw [Int.toNat_natCast, Int.toNat_natCast, set_mat]
        refine mat_congr fun x y _ _ => ?_
        unfold lockM
        rw [lockE_snoc hil, ea', eb', Bool.true_and]
        by_cases hxy : x = a ∧ y = b
        · obtain ⟨rfl, rfl⟩ := hxy
          rw [if_pos ⟨rfl, rfl⟩, beq_self_eq_true, beq_self_eq_true, Bool.and_self, Bool.or_true, if_pos rfl]
        · rw [if_neg hxy]
          have : (((a : Int) == (x : Int)) && ((b : Int) == (y : Int))) = false := by
            rw [Bool.eq_false_iff]
            intro hc
            rw [Bool.and_eq_true, beq_iff_eq, beq_iff_eq] at hc
            exact hxy ⟨by omega, by omega⟩
          rw [this, Bool.or_false]
      have hR : ¬ Reach n (lnk (lockM D lk)) b a := fun hr => by
        have := hr (fun x => 0 ≤ φ x → 0 ≤ φ b) (fun h => h) (fun x y hx hy hC hl h0 => hC (s2.clo x y hx hy hl h0))
        rw [s2.good.1] at this
        have := this (by omega)
        omega
      rw [cond_true, idx_nat hi, ea, idx_mat ha, idx_nat hi, eb, idx_tab hb, hset]
      exact ih (lk ++ [true]) (cs ++ [r]) (by simp; omega) (by simp; omega) (ranked_snoc hil ea' eb' ha hb hR h3)
    | false =>
      have hm : mat n (lockM D lk) = mat n (lockM D (lk ++ [false])) := mat_congr fun x y _ _ => by
        unfold lockM
        rw [lockE_snoc hil, Bool.false_and, Bool.or_false]
      rw [cond_false, hm]
      exact ih (lk ++ [false]) (cs ++ [r]) (by simp; omega) (by simp; omega) (ranked_same hil h3)
theorem duels_ok {n : Nat} {M : Nat → Nat → Int} : DOk n (duels n M) := by
  intro d hd
  unfold duels at hd
  obtain ⟨x, hx, rfl⟩ := List.mem_map.1 hd
  rw [List.mem_reverse, sortB_perm.mem_iff, mem_prs] at hx
  exact ⟨x.1, x.2, hx.1, hx.2.1, fun e => by have := hx.2.2; rw [e] at this; omega, rfl, rfl⟩
theorem bothLocks {n : Nat} {R : List (List Nat)} {T : List Nat} (h : Prof n R T) : ∃ res cs, F_spec_l06Lock (n : Int) (duels n (pairM R T)) = some (res, cs) ∧ F_impl_Profile_locks (prof R T) = some res ∧ res.length = (duels n (pairM R T)).length ∧ Ranked n (duels n (pairM R T)) res := by
  have h6 := h.n6
  have hl := duels_len h6 (M := pairM R T)
  obtain ⟨res, cs, e1, e2, e3, e4⟩ := locks_loop (n := n) (D := duels n (pairM R T)) (p := prof R T) h6 (imOptions h) duels_ok (by omega) (duels n (pairM R T)).length 0 ((duels n (pairM R T)).length + 1) (by omega) (by omega) [] [] rfl rfl ⟨fun _ => 0, fun a b _ _ he => by cases he⟩
  refine ⟨res, cs, ?_, ?_, e3, e4⟩
  · unfold F_spec_l06Lock
    rw [spSquare h6, Option.bind_some]
    have : mat n (fun _ _ => (0 : Int)) = mat n (lockM (duels n (pairM R T)) []) := mat_congr fun x y _ _ => rfl
    rw [this]
    exact e1
  · unfold F_impl_Profile_locks
    rw [imDuels h, Option.bind_some]
    exact e2
end Go.FX
