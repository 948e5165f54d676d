/- The pure part: what the functions compute, in plain Lean, with no program in sight; no condition. -/
import Derived.Test.YtnjfgdadnbekpaaDoorTvPure6
namespace Go.FX
open Go Go.GL Go.RowKit
/-! numbers in writing -/
set_option maxRecDepth 100000 in
theorem pint_tab : ∀ k : Fin 1001, pint (dd 5 k.val) = ((k.val : Int), false) := by decide +kernel
set_option maxRecDepth 100000 in
theorem dlen_tab : ∀ k : Fin 1001, (dd 5 k.val).length ≤ 4 := by decide +kernel
theorem itoa_dd {x : Nat} (h : x ≤ 1000) : Go.Lib.itoa (x : Int) = dd 5 x := by
  unfold Go.Lib.itoa
  rw [if_neg (by omega), Int.toNat_natCast]
  exact dd_eq 4 x (by omega)
theorem imDecimal {x : Int} (h1 : -9223372036854775808 ≤ x) (h2 : x ≤ 9223372036854775807) : F_impl_Decimal x = some (Go.Lib.itoa x) := by
  unfold F_impl_Decimal F_strconv_FormatInt
  rw [decide_eq_true h1, decide_eq_true h2]
  rfl
theorem pint_rng (l : Bytes) (h : (pint l).2 = false) : -9223372036854775808 ≤ (pint l).1 ∧ (pint l).1 ≤ 9223372036854775807 := by
  unfold pint at *
  cases hp : Lib.parseIntB 64 l with
  | ok v =>
    show -9223372036854775808 ≤ v ∧ v ≤ 9223372036854775807
    unfold Lib.parseIntB at hp
    cases l with
    | nil => cases hp
    | cons c r =>
      simp only at hp
      split at hp
      · cases hp
      · cases hp
      · rename_i u _
        by_cases hn : c.toNat = 45
        · rw [if_neg (by rintro ⟨h, -⟩; exact h hn)] at hp
          by_cases hu : 2 ^ (64 - 1) < u
          · rw [if_pos ⟨hn, hu⟩] at hp; cases hp
          · rw [if_neg (by rintro ⟨-, h⟩; exact hu h), if_pos hn] at hp
            cases hp
            omega
        · by_cases hu : 2 ^ (64 - 1) ≤ u
          · rw [if_pos ⟨hn, hu⟩] at hp; cases hp
          · rw [if_neg (by rintro ⟨-, h⟩; exact hu h), if_neg (by rintro ⟨h, -⟩; exact hn h), if_neg hn] at hp
            cases hp
            omega
  | _ => rw [hp] at h; cases h
theorem imRead (a : Bytes) (lo hi : Int) (hl : a.length ≤ 281474976710656) : ∃ r, F_impl_readNumber a lo hi = some r ∧
    (r = (0, false) ∨ (r = ((pint a).1, true) ∧ Go.Lib.itoa (pint a).1 = a ∧ lo ≤ (pint a).1 ∧ (pint a).1 ≤ hi)) ∧
    ((pint a).2 = false → Go.Lib.itoa (pint a).1 = a → lo ≤ (pint a).1 → (pint a).1 ≤ hi → r = ((pint a).1, true)) := by
  unfold F_impl_readNumber
  rw [show F_strconv_ParseInt a 10 64 = some (pint a) from by unfold F_strconv_ParseInt; rw [decide_eq_true hl]; rfl, Option.bind_some]
  cases hb : (pint a).2 with
  | true => exact ⟨_, rfl, .inl rfl, fun h => by cases h⟩
  | false =>
    obtain ⟨h1, h2⟩ := pint_rng a hb
    rw [cond_false, imDecimal h1 h2, Option.bind_some]
    by_cases he : Go.Lib.itoa (pint a).1 = a
    · rw [show (((Go.Lib.itoa (pint a).1 : Bytes)) != a) = false from by rw [he]; exact bne_self_eq_false a, cond_false, imIn]
      cases hw : within (pint a).1 lo hi with
      | true =>
        unfold within at hw
        rw [Bool.and_eq_true, decide_eq_true_eq, decide_eq_true_eq] at hw
        exact ⟨_, rfl, .inr ⟨rfl, he, hw.1, hw.2⟩, fun _ _ _ _ => rfl⟩
      | false =>
        refine ⟨_, rfl, .inl rfl, fun _ _ h3 h4 => ?_⟩
        unfold within at hw
        rw [decide_eq_true h3, decide_eq_true h4] at hw
        cases hw
    · rw [show (((Go.Lib.itoa (pint a).1 : Bytes)) != a) = true from by rw [bne_iff_ne]; exact he]
      exact ⟨_, rfl, .inl rfl, fun _ h => absurd h he⟩
/-- a number in writing reads as that number -/
theorem imRead_dd {x : Nat} {lo hi : Int} (h : x ≤ 1000) (h1 : lo ≤ (x : Int)) (h2 : (x : Int) ≤ hi) : F_impl_readNumber (dd 5 x) lo hi = some ((x : Int), true) := by
  have hp : pint (dd 5 x) = ((x : Int), false) := pint_tab ⟨x, by omega⟩
  have hd : (dd 5 x).length ≤ 4 := dlen_tab ⟨x, by omega⟩
  obtain ⟨r, e, -, e2⟩ := imRead (dd 5 x) lo hi (by omega)
  rw [hp] at e2
  rw [e, e2 rfl (itoa_dd h) h1 h2]
end Go.FX
