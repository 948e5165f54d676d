/- The pure part: what the functions compute, in plain Lean, with no program in sight; no condition. -/
import Derived.Test.YtghlajdnpejmcaaRcPure5
namespace Go.FX
open Go Go.GL Go.RowKit
/-! an option is dropped -/
section
variable {n : Nat} {R : List (List Nat)} {T : List Nat} (h : Prof n R T)
include h
theorem spOpt (o : Int) : F_spec_l06Option (prof R T) o = some (within o 0 ((n : Int) - 1)) := by
  have h1 := h.n1; have h6 := h.n6
  unfold F_spec_l06Option
  rw [spCount (by rw [prof_len]; exact h.r1), cnt_prof h, Option.bind_some, W_id (by omega) (by omega), spIn]
  rfl
theorem imOpt (o : Int) (hs : smP (prof R T)) (hq : profOk (prof R T) = true) : F_impl_isOption (prof R T) o = some (within o 0 ((n : Int) - 1)) := by
  have h1 := h.n1; have h6 := h.n6
  unfold F_impl_isOption
  rw [imProfile _ hs, hq, Option.bind_some, cond_true, imOptions h, Option.bind_some, W_id (by omega) (by omega), imIn]
  rfl
end
theorem imOptBad {p : DProfile} {o : Int} (hs : smP p) (hq : profOk p = false) : F_impl_isOption p o = some false := by
  unfold F_impl_isOption
  rw [imProfile _ hs, hq]
  rfl
/-! disagreement -/
end Go.FX
