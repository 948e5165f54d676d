/- Proved here: the given statement FnExactPathStrengthsSaid: the law FnExactPathStrengths answers true, for every input that its row takes, and does no more than the row allows. Conditions: none beyond the row. The text is printed by a program of mine: the walk (..Walk texts) meets the pure part (..Laws texts). -/
import Derived.Test.YtghlajdnpejmcaaRows
import Derived.ProofKit
import Derived.Test.YtghlajdnpejmcaaRbWalk3
import Derived.Test.YtghlajdnpejmcaaRbLaws2
import Derived.Test.YtghlajdnpejmcaaRbFacts
namespace Go.FX
open Go Go.GL Go.RowKit Go.Proofs
instance : RD Try.prog Int := ⟨InR, fun h => by obtain ⟨n, rfl, -, hw⟩ := DataW.trod_int (k := .i64) (by kernel_rfl) h; exact ⟨n, ⟨rfl, trivial⟩, wf_inR hw⟩⟩
instance : RD Try.prog ((List Int)) := RD.list (by kernel_rfl) (fun h => h)
instance : RD Try.prog ((List (List Int))) := RD.list (by kernel_rfl) (fun h => h)
instance : RD Try.prog LProfile where
  good := fun x => RD.good Try.prog x.fRankings ∧ RD.good Try.prog x.fWeights
  of := fun {H enc w base spare held fuel cs x} h => by
    obtain ⟨hl, hf⟩ := trod_ft (n := 2) (L := [(0, 22), (1, 23)]) (by kernel_rfl) h
    match cs, hl with
    | [c0, c1], _ =>
      obtain ⟨y0, m0, e0⟩ := hf 0 0 22 c0 rfl rfl
      obtain ⟨x0, g0, k0⟩ := RD.of (P := Try.prog) (α := (List (List Int))) e0
      obtain ⟨y1, m1, e1⟩ := hf 1 1 23 c1 rfl rfl
      obtain ⟨x1, g1, k1⟩ := RD.of (P := Try.prog) (α := (List Int)) e1
      exact ⟨⟨x0, x1⟩, ⟨_, _, rfl, g0, g1⟩, k0, k1⟩
end Go.FX
namespace Go.Proofs.Ytghlajdnpejmcaa
open Go Go.GL Go.RowKit Go.WideShapes Go.ChangeShapes Go.Deep Go.Proofs.Ytghlajdnpejmcaa Go.FX

set_option maxRecDepth 100000
theorem lifted_PathStrengths (os : Os) (started : os.Started) (H : Type) (enc : TypeId × Value → H) :
    ReturnsInHanded {} Try.checked os 10 .any (Rows.fnExactPathStrengthsSpec.pre6 enc Try.prog Try.f10 Rows.fnExactPathStrengthsRow.domain false) (Rows.fnExactPathStrengthsSpec.post enc Try.prog Try.f10 false true false false) := by
  refine returnsInHanded_of_change (C := Try.checked) q_own started (by kernel_rfl) Try.func10
    (ChangeSpec.witness6 (enc := enc) (C := Try.checked) false ⟨#[], #[.agg #[.slice none 0 0, .slice none 0 0]], []⟩ 8 (by kernel_rfl) (by kernel_rfl) (by kernel_rfl) (by kernel_rfl)) ?_
  intro W base args ds gs before hval0 hW _ _
  have hval : ∀ (j : Nat) t v, Try.f10.params[j]? = some t → args[j]? = some v → Value.okWide Try.prog W .any base t v := hval0
  have hW' := hW
  obtain ⟨p, q, hA0, hV, rfl, -, -⟩ := hW
  have hA : DataW.TrodAll enc Try.prog W 0 (fun _ => true) true Try.f10.params.toList args.toList ds p := hA0
  have hpar : Try.f10.params = #[25] := by kernel_rfl
  have hres : Try.f10.resultTypes = #[4] := by kernel_rfl
  rw [hpar] at hA hval
  obtain ⟨rfl, rfl⟩ := trodVars_none hV
  have hlt : ∀ x ∈ p, x.block < W.heap.size := fun x hx => by simpa using hW'.lt x (by simp [hx])
  have hkeep : ∀ (W' : World) (sp : Nat → Bool), Below W.heap.size W W' → (∀ x ∈ p, sp x.block = true) → DataW.TrodAll enc Try.prog W' 0 sp true Try.f10.params.toList args.toList ds p := fun W' sp hb hsp =>
    trodAll_stays q2 hb sp (by kernel_rfl) hA0 hlt hsp
  obtain ⟨v0, vs0, d0, ds0, p0, q0, ha0, hd0, hp0, h0, hr0⟩ := trodAll_cons hA
  obtain ⟨hvn, hdn, hpn⟩ := trodAll_nil hr0
  have hargs : args = #[v0] := by have e : args.toList = [v0] := (by rw [ha0, hvn]); exact Array.ext' e
  have hds : ds = [d0] := by rw [hd0, hdn]
  rw [hargs] at hval
  obtain ⟨fu0, t0⟩ := h0
  have w0 := hval 0 25 v0 rfl rfl
  obtain ⟨cs0, rfl⟩ := okWide_ft (n := 2) (L := [(0, 22), (1, 23)]) (by kernel_rfl) w0
  obtain ⟨l0, r0, g0⟩ := RD.of (P := Try.prog) (α := LProfile) t0
  obtain ⟨x0_0, x0_1, e0, s0_0, s0_1⟩ := r0
  obtain rfl : cs0 = #[x0_0, x0_1] := Array.ext' e0
  rw [hargs]
  refine (ok_laws_FnExactPathStrengths W l0 x0_0 s0_0 x0_1 s0_1 true (law_PathStrengths l0 g0)).mono fun e W' he => ?_
  match e, he with
  | .returned v, ⟨hv, hst⟩ =>
    subst hv
    have hb := hst.below
    rw [hargs] at hW'
    refine ⟨_, rfl, post_below (pa := p) (pv := []) hW' (fun b sp hd => ?_) (fun sp hsp => ?_) (fun _ _ => by rw [hds]; rfl) rfl hb (fun j t r ht hr => ?_)⟩
    · rw [hres, List.append_nil, hds]
      exact trodAll_mk1 (shut_bool (by kernel_rfl) _)
    · have := hkeep W' sp hb (fun x hx => hsp x (by simp [hx]))
      rw [hargs] at this
      rw [List.append_nil, hds] at *
      exact this
    · rw [hres] at ht hr
      match j, ht, hr with
      | 0, ht, hr =>
        obtain rfl := Option.some.inj ht
        obtain rfl := Option.some.inj hr
        exact okWide_bool_mk (by kernel_rfl) _
theorem l10_PathStrengths : (Rows.fnExactPathStrengthsRow.inPlace == Try.prog.inPlace 10) = true := by kernel_rfl
theorem l11_PathStrengths : (Rows.fnExactPathStrengthsRow.unfollowed == Try.prog.unfollowed 10) = true := by kernel_rfl
theorem l12_PathStrengths : (Rows.fnExactPathStrengthsRow.recurses == Try.prog.recurses 10) = true := by kernel_rfl
theorem l13_PathStrengths : (Rows.fnExactPathStrengthsRow.named == Try.prog.varsNamed 10) = true := by kernel_rfl
theorem joined_PathStrengths : joinedFacts Try.prog 10 Try.f10 Rows.fnExactPathStrengthsSpec Rows.fnExactPathStrengthsRow = true :=
  joined_of (by kernel_rfl) q2 q3 (by kernel_rfl) (by kernel_rfl) (by kernel_rfl) q7 (by kernel_rfl) q9 l10_PathStrengths l11_PathStrengths l12_PathStrengths l13_PathStrengths (by kernel_rfl) (by kernel_rfl) (by kernel_rfl) (by kernel_rfl) (by kernel_rfl) (by kernel_rfl) (by kernel_rfl) (by kernel_rfl) (by kernel_rfl) q23 (by kernel_rfl) q25 q26 q27 q28 (by kernel_rfl) (by kernel_rfl) (by kernel_rfl) (by kernel_rfl)
theorem named_PathStrengths : Try.prog.funcNamed Rows.fnExactPathStrengthsRow.func = some 10 := by kernel_rfl
theorem inst_PathStrengths : Try.f10.isInstance Try.prog Rows.fnExactPathStrengthsRow.origin Rows.fnExactPathStrengthsRow.targs := of_decide_eq_true (by kernel_rfl)
theorem wrap_PathStrengths : Try.f10.isWrapper Try.prog Rows.fnExactPathStrengthsRow.wrapper Rows.fnExactPathStrengthsRow.mainSum := by unfold Func.isWrapper; first | (rw [if_pos (by decide +kernel)]; kernel_rfl) | (rw [if_neg (by decide +kernel)]; exact ⟨rfl, rfl⟩)
theorem fnExactPathStrengths_holds : Rows.FnExactPathStrengthsSaid :=
  OpenClaim.holds_of_wide 10 Try.f10 rfl rfl rfl rfl rfl rfl rfl ⟨rfl, rfl, rfl, rfl, rfl⟩ rfl rfl rfl rfl rfl named_PathStrengths Try.func10 joined_PathStrengths inst_PathStrengths wrap_PathStrengths
    (fun os started H enc _ => lifted_PathStrengths os started H enc)
end Go.Proofs.Ytghlajdnpejmcaa
