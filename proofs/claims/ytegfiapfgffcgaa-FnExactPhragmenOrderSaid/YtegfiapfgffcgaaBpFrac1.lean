/- The pure part: what the functions compute, in plain Lean, with no program in sight; no condition. -/
import Derived.Test.YtegfiapfgffcgaaBpPure4
namespace Go.FX
open Go Go.GL Go.RowKit
/-! Euclid -/
theorem tmod_nat (a b : Nat) : Int.tmod (a : Int) (b : Int) = ((a % b : Nat) : Int) := rfl
theorem tdiv_nat (a b : Nat) : Int.tdiv (a : Int) (b : Int) = ((a / b : Nat) : Int) := rfl
theorem dvd_ok {β : Type} {b : Int} {k : Option β} (h : b ≠ 0) : dvd b k = k := by
  unfold dvd
  exact grd_eq (by simp [h])
theorem spGcd (a : Nat) : ∀ (b : Nat) (f : Nat), b + 1 < f → F_spec_l01Gcd_l1 f (a : Int) (b : Int) = some ((Nat.gcd a b : Nat) : Int) := by
  intro b
  induction b using Nat.strongRecOn generalizing a with
  | _ b ih =>
    intro f hf
    obtain ⟨f, rfl⟩ : ∃ g, f = g + 1 := ⟨f - 1, by omega⟩
    rw [F_spec_l01Gcd_l1.eq_2]
    by_cases h : b = 0
    · subst h; simp
    · have hm : a % b < b := Nat.mod_lt _ (by omega)
      rw [decide_eq_true (by omega), cond_true, dvd_ok (by omega), tmod_nat, ih (a % b) hm b f (by omega), Nat.gcd_comm a b, Nat.gcd_rec b a, Nat.gcd_comm (a % b) b]
theorem imGcd : ∀ (k a b f : Nat), b < 2 ^ k → 2 * k + 1 < f → F_impl_divisor_l1 f (a : Int) (b : Int) = some ((Nat.gcd a b : Nat) : Int) := by
  have stop : ∀ (a f : Nat), F_impl_divisor_l1 (f + 1) (a : Int) ((0 : Nat) : Int) = some ((Nat.gcd a 0 : Nat) : Int) := by
    intro a f; rw [F_impl_divisor_l1.eq_2]; simp
  have go : ∀ (a b f : Nat), b ≠ 0 → F_impl_divisor_l1 (f + 1) (a : Int) (b : Int) = F_impl_divisor_l1 f (b : Int) ((a % b : Nat) : Int) := by
    intro a b f h
    rw [F_impl_divisor_l1.eq_2, bne_t (by omega), cond_true, dvd_ok (by omega), tmod_nat]
  have gr : ∀ a b : Nat, Nat.gcd b (a % b) = Nat.gcd a b := fun a b => by rw [Nat.gcd_comm b, ← Nat.gcd_rec b a, Nat.gcd_comm]
  intro k
  induction k with
  | zero =>
    intro a b f hb hf
    obtain ⟨f, rfl⟩ : ∃ g, f = g + 1 := ⟨f - 1, by omega⟩
    obtain rfl : b = 0 := by simpa using hb
    exact stop a f
  | succ k ih =>
    intro a b f hb hf
    obtain ⟨f, rfl⟩ : ∃ g, f = g + 2 := ⟨f - 2, by omega⟩
    by_cases h : b = 0
    · subst h; exact stop a (f + 1)
    · rw [go a b (f + 1) h]
      by_cases h2 : a % b = 0
      · rw [h2, stop b f, ← gr a b, h2]
      · rw [go b (a % b) f h2, ih (a % b) (b % (a % b)) f ?_ (by omega), gr, gr]
        have hlt : a % b < b := Nat.mod_lt _ (by omega)
        have h3 : b % (a % b) < a % b := Nat.mod_lt _ (by omega)
        have h4 : b % (a % b) + a % b ≤ b := by
          have := Nat.div_add_mod b (a % b)
          have h5 : 1 ≤ b / (a % b) := (Nat.one_le_div_iff (by omega)).2 (by omega)
          have h6 : a % b * 1 ≤ a % b * (b / (a % b)) := Nat.mul_le_mul_left _ h5
          omega
        rw [Nat.pow_succ] at hb
        omega
theorem absv {n : Int} (h : -9223372036854775808 < n) (h2 : n ≤ 9223372036854775807) : F_spec_l01Abs n = some (n.natAbs : Int) ∧ F_impl_absolute n = some (n.natAbs : Int) := by
  unfold F_spec_l01Abs F_impl_absolute F_spec_l00Max imax
  rw [W_id (by omega) (by omega)]
  constructor
  · by_cases e : n > 0 - n
    · rw [decide_eq_true e, cond_true, Option.bind_some]; congr 1; omega
    · rw [decide_eq_false e, cond_false, Option.bind_some]; congr 1; omega
  · congr 1; split <;> omega
/-! fractions in lowest terms -/
def fr (n : Int) (d : Nat) : DFraction := ⟨Int.tdiv n (Nat.gcd n.natAbs d : Int), ((d / Nat.gcd n.natAbs d : Nat) : Int)⟩
/-- a fraction whose parts are small -/
def Sm (f : DFraction) : Prop := -1000000000 ≤ f.fNum ∧ f.fNum ≤ 1000000000 ∧ 1 ≤ f.fDen ∧ f.fDen ≤ 1000000000
theorem gcd_pos' {n : Int} {d : Nat} (h : 0 < d) : 0 < Nat.gcd n.natAbs d := Nat.gcd_pos_of_pos_right _ h
theorem fr_num {n : Int} {d : Nat} : (fr n d).fNum * (Nat.gcd n.natAbs d : Int) = n := Int.tdiv_mul_cancel (Int.ofNat_dvd_left.2 (Nat.gcd_dvd_left _ _))
theorem fr_den {n : Int} {d : Nat} : (fr n d).fDen * (Nat.gcd n.natAbs d : Int) = d := by
  show ((d / Nat.gcd n.natAbs d : Nat) : Int) * (Nat.gcd n.natAbs d : Int) = d
  rw [← Int.natCast_mul, Nat.div_mul_cancel (Nat.gcd_dvd_right _ _)]
theorem fr_den_pos {n : Int} {d : Nat} (h : 0 < d) : 1 ≤ (fr n d).fDen := by
  show (1 : Int) ≤ ((d / Nat.gcd n.natAbs d : Nat) : Int)
  have : 1 ≤ d / Nat.gcd n.natAbs d := (Nat.one_le_div_iff (gcd_pos' h)).2 (Nat.le_of_dvd h (Nat.gcd_dvd_right _ _))
  omega
theorem fr_den_le {n : Int} {d : Nat} : (fr n d).fDen ≤ d := by
  show ((d / Nat.gcd n.natAbs d : Nat) : Int) ≤ d
  have := Nat.div_le_self d (Nat.gcd n.natAbs d)
  omega
theorem fr_num_le {n : Int} {d : Nat} : (fr n d).fNum.natAbs ≤ n.natAbs := by
  show (Int.tdiv n (Nat.gcd n.natAbs d : Int)).natAbs ≤ _
  rw [Int.natAbs_tdiv]
  exact Nat.div_le_self _ _
theorem fr_cop {n : Int} {d : Nat} (h : 0 < d) : Nat.gcd (fr n d).fNum.natAbs (fr n d).fDen.natAbs = 1 := by
  have e : (fr n d).fNum.natAbs = n.natAbs / Nat.gcd n.natAbs d := by
    show (Int.tdiv n (Nat.gcd n.natAbs d : Int)).natAbs = _
    rw [Int.natAbs_tdiv]; rfl
  have e2 : (fr n d).fDen.natAbs = d / Nat.gcd n.natAbs d := rfl
  rw [e, e2]
  exact Nat.coprime_div_gcd_div_gcd (gcd_pos' h)
/-- two fractions in lowest terms that are equal by crosses are one -/
theorem cop_inj {f g : DFraction} (hf : Nat.gcd f.fNum.natAbs f.fDen.natAbs = 1) (hg : Nat.gcd g.fNum.natAbs g.fDen.natAbs = 1) (pf : 1 ≤ f.fDen) (pg : 1 ≤ g.fDen) (e : f.fNum * g.fDen = g.fNum * f.fDen) : f = g := by
  obtain ⟨a, b⟩ := f
  obtain ⟨c, d⟩ := g
  simp only at *
  have en : a.natAbs * d.natAbs = c.natAbs * b.natAbs := by rw [← Int.natAbs_mul, e, Int.natAbs_mul]
  have hbd : b.natAbs = d.natAbs := by
    apply Nat.dvd_antisymm
    · have : b.natAbs ∣ a.natAbs * d.natAbs := by rw [en]; exact Nat.dvd_mul_left _ _
      exact (Nat.Coprime.symm hf).dvd_of_dvd_mul_left this
    · have : d.natAbs ∣ c.natAbs * b.natAbs := by rw [← en]; exact Nat.dvd_mul_left _ _
      exact (Nat.Coprime.symm hg).dvd_of_dvd_mul_left this
  have hb : b = d := by omega
  subst hb
  have : a = c := Int.eq_of_mul_eq_mul_right (by omega) e
  rw [this]
theorem fr_cross {n : Int} {d : Nat} : (fr n d).fNum * d = n * (fr n d).fDen := by
  have h1 := fr_num (n := n) (d := d)
  have h2 := fr_den (n := n) (d := d)
  conv => lhs; rw [← h2]
  conv => rhs; lhs; rw [← h1]
  rw [Int.mul_assoc]
  congr 1
  exact Int.mul_comm _ _
theorem fr_eq {n : Int} {d : Nat} {f : DFraction} (hd : 0 < d) (hf : Nat.gcd f.fNum.natAbs f.fDen.natAbs = 1) (pf : 1 ≤ f.fDen) (e : f.fNum * d = n * f.fDen) : f = fr n d := by
  refine cop_inj hf (fr_cop hd) pf (fr_den_pos hd) ?_
  have h1 := fr_cross (n := n) (d := d)
  have hd' : (d : Int) ≠ 0 := by omega
  refine Int.eq_of_mul_eq_mul_right hd' ?_
  rw [Int.mul_assoc, Int.mul_comm _ (d : Int), ← Int.mul_assoc, e, Int.mul_assoc, Int.mul_comm f.fDen, ← Int.mul_assoc, ← h1, Int.mul_assoc, Int.mul_assoc]
  congr 1
  exact Int.mul_comm _ _
theorem fr_eq_iff {n m : Int} {d e : Nat} (hd : 0 < d) (he : 0 < e) (h : n * e = m * d) : fr n d = fr m e := by
  refine fr_eq he (fr_cop hd) (fr_den_pos hd) ?_
  have h1 := fr_cross (n := n) (d := d)
  have hd' : (d : Int) ≠ 0 := by omega
  refine Int.eq_of_mul_eq_mul_right hd' ?_
  rw [Int.mul_assoc, Int.mul_comm (e : Int), ← Int.mul_assoc, h1, Int.mul_assoc, Int.mul_comm _ (e : Int), ← Int.mul_assoc, h, Int.mul_assoc, Int.mul_assoc]
  congr 1
  exact Int.mul_comm _ _
theorem fr_scale {n : Int} {d k : Nat} (hd : 0 < d) (hk : 0 < k) : fr (n * k) (d * k) = fr n d :=
  fr_eq_iff (Nat.mul_pos hd hk) hd (by rw [Int.natCast_mul]; simp only [Int.mul_assoc]; congr 1; exact Int.mul_comm _ _)
/-! what makes them -/
theorem imFraction {n : Int} {d : Nat} (hd : 0 < d) (h1 : -9223372036854775808 < n) (h2 : n ≤ 9223372036854775807) (h3 : d ≤ 9223372036854775807) : F_impl_fraction n (d : Int) = some (fr n d) := by
  have hg : F_impl_divisor (n.natAbs : Int) (d : Int) = some ((Nat.gcd n.natAbs d : Nat) : Int) := imGcd 64 _ _ 1000 (by omega) (by omega)
  unfold F_impl_fraction
  rw [(absv h1 h2).2, Option.bind_some, hg, Option.bind_some]
  have hp := gcd_pos' (n := n) hd
  by_cases e : Nat.gcd n.natAbs d = 1
  · rw [e]
    unfold fr
    rw [e]
    simp
  · rw [decide_eq_true (by omega), cond_true, dvd_ok (by omega), dvd_ok (by omega), tdiv_nat]
    have b1 := fr_num_le (n := n) (d := d)
    have b2 := fr_den_le (n := n) (d := d)
    have b3 := fr_den_pos (n := n) hd
    unfold fr at *
    simp only at b1 b2 b3
    rw [W_id (by omega) (by omega), W_id (by omega) (by omega)]
theorem ok_cop {f : DFraction} (hs : Sm f) : F_spec_l01Ok f = some (decide (Nat.gcd f.fNum.natAbs f.fDen.natAbs = 1)) := by
  obtain ⟨a, b, c, d⟩ := hs
  unfold F_spec_l01Ok
  simp only [spIn, Option.bind_some]
  have w1 : within f.fDen 1 1000000000 = true := within_iff.2 ⟨c, d⟩
  have w2 : within f.fNum (-1000000000) 1000000000 = true := within_iff.2 ⟨a, b⟩
  rw [w1, w2, cond_true, cond_true, (absv (by omega) (by omega)).1, Option.bind_some]
  have hg : F_spec_l01Gcd (f.fNum.natAbs : Int) f.fDen = some ((Nat.gcd f.fNum.natAbs f.fDen.natAbs : Nat) : Int) := by
    have hd : f.fDen = (f.fDen.natAbs : Int) := by omega
    have := spGcd f.fNum.natAbs f.fDen.natAbs (Int.toNat (f.fDen - 0) + 2) (by omega)
    rw [← hd] at this
    exact this
  rw [hg, Option.bind_some, Option.bind_some, beq_dec]
  congr 1
  rw [decide_eq_decide]
  omega
def inB (f : DFraction) : Bool := within f.fDen 1 1000000000 && within f.fNum (-1000000000) 1000000000
theorem ok_fr {n : Int} {d : Nat} (hd : 0 < d) : F_spec_l01Ok (fr n d) = some (inB (fr n d)) := by
  have b3 := fr_den_pos (n := n) hd
  by_cases h : inB (fr n d) = true
  · have hh := h
    unfold inB at hh
    rw [Bool.and_eq_true, within_iff, within_iff] at hh
    rw [ok_cop ⟨hh.2.1, hh.2.2, hh.1.1, hh.1.2⟩, decide_eq_true (fr_cop hd), h]
  · rw [Bool.eq_false_iff.2 h]
    unfold F_spec_l01Ok
    simp only [spIn, Option.bind_some]
    unfold inB at h
    cases w1 : within (fr n d).fDen 1 1000000000
    · rfl
    · rw [w1, Bool.true_and] at h
      rw [Bool.eq_false_iff.2 h]
      rfl
theorem spMake {n : Int} {d : Nat} (hd : 0 < d) (h1 : -9223372036854775808 < n) (h2 : n ≤ 9223372036854775807) (h3 : d ≤ 9223372036854775807) : F_spec_l01Make n (d : Int) = some (if inB (fr n d) = true then (fr n d, true) else (⟨0, 0⟩, false)) := by
  have hg : F_spec_l01Gcd (n.natAbs : Int) (d : Int) = some ((Nat.gcd n.natAbs d : Nat) : Int) := spGcd _ _ _ (by omega)
  unfold F_spec_l01Make
  have hp := gcd_pos' (n := n) hd
  have b1 := fr_num_le (n := n) (d := d)
  have b2 := fr_den_le (n := n) (d := d)
  have b3 := fr_den_pos (n := n) hd
  have e1 : IntKind.i64.wrap (Int.tdiv n ((Nat.gcd n.natAbs d : Nat) : Int)) = (fr n d).fNum := by
    have : (fr n d).fNum = Int.tdiv n ((Nat.gcd n.natAbs d : Nat) : Int) := rfl
    rw [this] at b1 ⊢
    exact W_id (by omega) (by omega)
  have e2 : IntKind.i64.wrap (Int.tdiv (d : Int) ((Nat.gcd n.natAbs d : Nat) : Int)) = (fr n d).fDen := by
    have : (fr n d).fDen = Int.tdiv (d : Int) ((Nat.gcd n.natAbs d : Nat) : Int) := rfl
    rw [this] at b2 b3 ⊢
    exact W_id (by omega) (by omega)
  rw [decide_eq_false (by omega), cond_false]
  simp only [Option.bind_some]
  rw [(absv h1 h2).1, Option.bind_some, hg, Option.bind_some, dvd_ok (by omega), dvd_ok (by omega), Option.bind_some, e1, e2]
  have : DFraction.mk (fr n d).fNum (fr n d).fDen = fr n d := rfl
  rw [this, ok_fr hd, Option.bind_some]
  cases inB (fr n d) <;> rfl
end Go.FX
