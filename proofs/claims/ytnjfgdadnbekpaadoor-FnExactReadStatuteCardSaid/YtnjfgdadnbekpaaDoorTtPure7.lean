/- The pure part: what the functions compute, in plain Lean, with no program in sight; no condition. -/
import Derived.Test.YtnjfgdadnbekpaaDoorTtPure6
namespace Go.FX
open Go Go.GL Go.RowKit
/-! numbers in writing -/
def dd : Nat → Nat → Bytes
  | 0, _ => []
  | f + 1, u => if u < 10 then [UInt8.ofNat (48 + u)] else dd f (u / 10) ++ [UInt8.ofNat (48 + u % 10)]
theorem dd_eq : ∀ (f u : Nat), u < 10 ^ (f + 1) → Go.Lib.decDigits u = dd (f + 1) u := by
  intro f
  induction f with
  | zero =>
    intro u hu
    rw [Go.Lib.decDigits, dif_pos (by simpa using hu)]
    unfold dd
    rw [if_pos (by simpa using hu)]
  | succ f ih =>
    intro u hu
    rw [Go.Lib.decDigits]
    unfold dd
    by_cases h : u < 10
    · rw [dif_pos h, if_pos h]
    · rw [dif_neg h, if_neg h, ih (u / 10) (by rw [Nat.pow_succ] at hu; omega)]
set_option maxRecDepth 100000 in
theorem dec_tab : ∀ k : Fin 1001, F_spec_l01Dec (k.val : Int) = some (dd 5 k.val) := by decide +kernel
set_option maxRecDepth 100000 in
theorem pint_tab : ∀ k : Fin 1001, pint (dd 5 k.val) = ((k.val : Int), false) := by decide +kernel
set_option maxRecDepth 100000 in
theorem read_tab : ∀ k : Fin 100, F_spec_l01Read (dd 5 k.val) = some ((k.val : Int), true) := by decide +kernel
set_option maxRecDepth 100000 in
theorem dlen_tab : ∀ k : Fin 1001, (dd 5 k.val).length ≤ 4 := by decide +kernel
theorem dlen2_tab : ∀ k : Fin 100, (dd 5 k.val).length ≤ 2 := by decide +kernel
theorem spDec {x : Nat} (h : x ≤ 1000) : F_spec_l01Dec (x : Int) = some (dd 5 x) := dec_tab ⟨x, by omega⟩
theorem itoa_dd {x : Nat} (h : x ≤ 1000) : Go.Lib.itoa (x : Int) = dd 5 x := by
  unfold Go.Lib.itoa
  rw [if_neg (by omega), Int.toNat_natCast]
  exact dd_eq 4 x (by omega)
theorem imDecimal {x : Int} (h1 : -9223372036854775808 ≤ x) (h2 : x ≤ 9223372036854775807) : F_impl_Decimal x = some (Go.Lib.itoa x) := by
  unfold F_impl_Decimal F_strconv_FormatInt
  rw [decide_eq_true h1, decide_eq_true h2]
  rfl
theorem imDec {x : Nat} (h : x ≤ 1000) : F_impl_Decimal (x : Int) = some (dd 5 x) := by rw [imDecimal (by omega) (by omega), itoa_dd h]
theorem pint_rng (l : Bytes) (h : (pint l).2 = false) : -9223372036854775808 ≤ (pint l).1 ∧ (pint l).1 ≤ 9223372036854775807 := by
  unfold pint at *
  cases hp : Lib.parseIntB 64 l with
  | ok v =>
    show -9223372036854775808 ≤ v ∧ v ≤ 9223372036854775807
    unfold Lib.parseIntB at hp
    cases l with
    | nil => cases hp
    | cons c r =>
      simp only at hp
      split at hp
      · cases hp
      · cases hp
      · rename_i u _
        by_cases hn : c.toNat = 45
        · rw [if_neg (by rintro ⟨h, -⟩; exact h hn)] at hp
          by_cases hu : 2 ^ (64 - 1) < u
          · rw [if_pos ⟨hn, hu⟩] at hp; cases hp
          · rw [if_neg (by rintro ⟨-, h⟩; exact hu h), if_pos hn] at hp
            cases hp
            omega
        · by_cases hu : 2 ^ (64 - 1) ≤ u
          · rw [if_pos ⟨hn, hu⟩] at hp; cases hp
          · rw [if_neg (by rintro ⟨-, h⟩; exact hu h), if_neg (by rintro ⟨h, -⟩; exact hn h), if_neg hn] at hp
            cases hp
            omega
  | _ => rw [hp] at h; cases h
theorem imRead (a : Bytes) (lo hi : Int) (hl : a.length ≤ 281474976710656) : ∃ r, F_impl_readNumber a lo hi = some r ∧
    (r = (0, false) ∨ (r = ((pint a).1, true) ∧ Go.Lib.itoa (pint a).1 = a ∧ lo ≤ (pint a).1 ∧ (pint a).1 ≤ hi)) ∧
    ((pint a).2 = false → Go.Lib.itoa (pint a).1 = a → lo ≤ (pint a).1 → (pint a).1 ≤ hi → r = ((pint a).1, true)) := by
  unfold F_impl_readNumber
  rw [show F_strconv_ParseInt a 10 64 = some (pint a) from by unfold F_strconv_ParseInt; rw [decide_eq_true hl]; rfl, Option.bind_some]
  cases hb : (pint a).2 with
  | true => exact ⟨_, rfl, .inl rfl, fun h => by cases h⟩
  | false =>
    obtain ⟨h1, h2⟩ := pint_rng a hb
    rw [cond_false, imDecimal h1 h2, Option.bind_some]
    by_cases he : Go.Lib.itoa (pint a).1 = a
    · rw [show (((Go.Lib.itoa (pint a).1 : Bytes)) != a) = false from by rw [he]; exact bne_self_eq_false a, cond_false, imIn]
      cases hw : within (pint a).1 lo hi with
      | true =>
        unfold within at hw
        rw [Bool.and_eq_true, decide_eq_true_eq, decide_eq_true_eq] at hw
        exact ⟨_, rfl, .inr ⟨rfl, he, hw.1, hw.2⟩, fun _ _ _ _ => rfl⟩
      | false =>
        refine ⟨_, rfl, .inl rfl, fun _ _ h3 h4 => ?_⟩
        unfold within at hw
        rw [decide_eq_true h3, decide_eq_true h4] at hw
        cases hw
    · rw [show (((Go.Lib.itoa (pint a).1 : Bytes)) != a) = true from by rw [bne_iff_ne]; exact he]
      exact ⟨_, rfl, .inl rfl, fun _ h => absurd h he⟩
/-- a number in writing reads as that number -/
theorem imRead_dd {x : Nat} {lo hi : Int} (h : x ≤ 1000) (h1 : lo ≤ (x : Int)) (h2 : (x : Int) ≤ hi) : F_impl_readNumber (dd 5 x) lo hi = some ((x : Int), true) := by
  have hp : pint (dd 5 x) = ((x : Int), false) := pint_tab ⟨x, by omega⟩
  have hd : (dd 5 x).length ≤ 4 := dlen_tab ⟨x, by omega⟩
  obtain ⟨r, e, -, e2⟩ := imRead (dd 5 x) lo hi (by omega)
  rw [hp] at e2
  rw [e, e2 rfl (itoa_dd h) h1 h2]
theorem dec_tot (a0 : Int) : ∀ (m f : Nat) (s : Bytes), m < f → m ≤ 2000000000 → s.length + m ≤ 3000000000 → ∃ r, F_spec_l01Dec_l1 a0 f (-(m : Int)) s = some r := by
  intro m
  induction m using Nat.strongRecOn with
  | ind m ih =>
    intro f s hf hm hs
    obtain ⟨f, rfl⟩ : ∃ g, f = g + 1 := ⟨f - 1, by omega⟩
    rw [F_spec_l01Dec_l1.eq_2]
    by_cases h0 : m = 0
    · subst h0
      rw [show decide (-((0 : Nat) : Int) < 0) = false from rfl, cond_false]
      cases decide (a0 < 0) with
      | true => rw [cond_true, cat_ok (by simp; omega)]; exact ⟨_, rfl⟩
      | false => exact ⟨_, rfl⟩
    · rw [show decide (-(m : Int) < 0) = true from decide_eq_true (by omega), cond_true, cat_ok (by simp; omega)]
      have e : Int.tdiv (-(m : Int)) 10 = -((m / 10 : Nat) : Int) := by rw [Int.neg_tdiv]; rfl
      rw [e, W_id (by omega) (by omega)]
      exact ih (m / 10) (by omega) f _ (by omega) (by omega) (by simp; omega)
theorem dec_some {x : Int} (h1 : -999999999 ≤ x) (h2 : x ≤ 999999999) : ∃ r, F_spec_l01Dec x = some r := by
  unfold F_spec_l01Dec
  by_cases h0 : x = 0
  · subst h0; exact ⟨_, rfl⟩
  rw [beq_eq_false_iff_ne.2 h0, cond_false]
  by_cases hp : x > 0
  · rw [decide_eq_true hp, cond_true, Option.bind_some, W_id (by omega) (by omega)]
    obtain ⟨m, rfl⟩ : ∃ m : Nat, x = (m : Int) := ⟨x.toNat, by omega⟩
    rw [show (0 - (m : Int)) = -(m : Int) by omega]
    exact dec_tot _ m _ [] (by omega) (by omega) (by simp; omega)
  · rw [decide_eq_false hp, cond_false, Option.bind_some]
    obtain ⟨m, rfl⟩ : ∃ m : Nat, x = -(m : Int) := ⟨x.natAbs, by omega⟩
    exact dec_tot _ m _ [] (by omega) (by omega) (by simp; omega)
theorem read_tot (a : Bytes) (hl : a.length ≤ maxLen) : ∀ k i f, i + k = a.length → k < f → ∀ x, ∃ r, F_spec_l01Read_l1 a f x (i : Int) = some r := by
  refine up (P := fun i f => ∀ x, ∃ r, F_spec_l01Read_l1 a f x (i : Int) = some r) (fun f x => ?_) (fun i f hi ih x => ?_)
  · rw [F_spec_l01Read_l1.eq_2, dlt_f (by omega)]; exact ⟨_, rfl⟩
  · rw [F_spec_l01Read_l1.eq_2, dlt_t hi, cond_true, W_succ hi hl]
    simp only [idx_nat hi]
    cases decide ((a[i].toNat : Int) ≥ 48) with
    | true =>
      rw [cond_true, Option.bind_some]
      cases decide ((a[i].toNat : Int) ≤ 57) with
      | true => exact ih _
      | false => exact ih _
    | false => exact ih _
theorem spRead_fin (a : Bytes) (v : Int) : ∃ (i : Int) (b : Bool), Option.bind ((F_spec_l00In v (-999999999) 999999999).bind fun x53 =>
      bif (!x53) then (some true) else ((F_spec_l01Dec v).bind fun x61 => some ((x61 : Bytes) != a))) (fun q50 => bif q50 then (some ((0 : Int), false)) else (some (v, true))) = some (i, b) ∧ (within i 1 99 = true → F_spec_l01Dec i = some a) := by
  rw [spIn, Option.bind_some]
  cases hw : within v (-999999999) 999999999 with
  | false => exact ⟨_, _, rfl, fun h => absurd h (by decide)⟩
  | true =>
    unfold within at hw
    rw [Bool.and_eq_true, decide_eq_true_eq, decide_eq_true_eq] at hw
    obtain ⟨r, hr⟩ := dec_some hw.1 hw.2
    rw [Bool.not_true, cond_false, hr, Option.bind_some, Option.bind_some]
    by_cases he : r = a
    · subst he
      rw [bne_self_eq_false]
      exact ⟨_, _, rfl, fun _ => hr⟩
    · rw [show (r != a) = true from by rw [bne_iff_ne]; exact he]
      exact ⟨_, _, rfl, fun h => absurd h (by decide)⟩
theorem spRead (a : Bytes) (hl : a.length ≤ maxLen) : ∃ (i : Int) (b : Bool), F_spec_l01Read a = some (i, b) ∧ (within i 1 99 = true → F_spec_l01Dec i = some a) := by
  unfold F_spec_l01Read
  cases decide ((List.length a : Int) > 10) with
  | true => exact ⟨_, _, rfl, fun h => absurd h (by decide)⟩
  | false =>
    obtain ⟨x, hx⟩ := read_tot a hl a.length 0 (a.length + 1) (by omega) (by omega) 0
    rw [cond_false, show F_spec_l01Read_l1 a (a.length + 1) 0 0 = some x from hx, Option.bind_some]
    have hq : ∃ q, (bif (decide ((List.length a : Int) > 0)) then (idx a 0 fun c42 => some ((c42.toNat : Int) == 45)) else (some false)) = some q := by
      by_cases h0 : 0 < a.length
      · rw [decide_eq_true (by omega), cond_true, idx0 h0]; exact ⟨_, rfl⟩
      · rw [decide_eq_false (by omega)]; exact ⟨_, rfl⟩
    obtain ⟨q, hq⟩ := hq
    rw [hq, Option.bind_some]
    cases q with
    | true => exact spRead_fin a _
    | false => exact spRead_fin a _
theorem ids (a : Bytes) (hl : a.length ≤ 1100000) : ∃ (i1 : Int) (b1 : Bool) (i2 : Int) (b2 : Bool), F_spec_l01Read a = some (i1, b1) ∧ F_impl_readNumber a 1 99 = some (i2, b2) ∧ (within i1 1 99 = true ∨ within i2 1 99 = true → i1 = i2) := by
  obtain ⟨i1, b1, e1, h1⟩ := spRead a (by unfold maxLen; omega)
  obtain ⟨⟨i2, b2⟩, e2, h2, -⟩ := imRead a 1 99 (by omega)
  refine ⟨i1, b1, i2, b2, e1, e2, fun hw => ?_⟩
  rcases hw with hw | hw
  · have hd := h1 hw
    unfold within at hw
    rw [Bool.and_eq_true, decide_eq_true_eq, decide_eq_true_eq] at hw
    obtain ⟨m, rfl⟩ : ∃ m : Nat, i1 = (m : Int) := ⟨i1.toNat, by omega⟩
    rw [spDec (by omega)] at hd
    have ha := Option.some.inj hd
    subst ha
    rw [imRead_dd (by omega) (by omega) (by omega)] at e2
    cases e2
    rfl
  · rcases h2 with h2 | ⟨h2, h3, -, -⟩
    · cases h2
      exact absurd hw (by decide)
    · cases h2
      unfold within at hw
      rw [Bool.and_eq_true, decide_eq_true_eq, decide_eq_true_eq] at hw
      obtain ⟨m, hm⟩ : ∃ m : Nat, (pint a).1 = (m : Int) := ⟨(pint a).1.toNat, by omega⟩
      rw [hm] at h3 hw ⊢
      rw [itoa_dd (by omega)] at h3
      have hr : F_spec_l01Read (dd 5 m) = some ((m : Int), true) := read_tab ⟨m, by omega⟩
      rw [h3, e1] at hr
      cases hr
      rfl
end Go.FX
