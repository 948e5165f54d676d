/- Proved here: the given statement FnExactValidFrameSaid: the law FnExactValidFrame answers true, for every input that its row takes, and does no more than the row allows. Conditions: none beyond the row. The text is printed by a program of mine: the walk (..Walk texts) meets the pure part (..Laws texts). -/
import Derived.Test.YtogfoieenmlijaaRows
import Derived.ProofKit
import Derived.Test.YtogfoieenmlijaaVaWalk2
import Derived.Test.YtogfoieenmlijaaVaPure3
namespace Go.FX
open Go Go.GL Go.RowKit Go.Proofs
instance : RD Try.prog Int := ⟨InR, fun h => by obtain ⟨n, rfl, -, hw⟩ := DataW.trod_int (k := .i64) (by kernel_rfl) h; exact ⟨n, ⟨rfl, trivial⟩, wf_inR hw⟩⟩
instance : RD Try.prog ((List Int)) := RD.list (by kernel_rfl) (fun h => h)
instance : RD Try.prog ((List (List Int))) := RD.list (by kernel_rfl) (fun h => h)
instance : RD Try.prog LFrame where
  good := fun x => InR x.fCount ∧ RD.good Try.prog x.fAttacks
  of := fun {H enc w base spare held fuel cs x} h => by
    obtain ⟨hl, hf⟩ := trod_ft (n := 2) (L := [(0, 2), (1, 36)]) (by kernel_rfl) h
    match cs, hl with
    | [c0, c1], _ =>
      obtain ⟨y0, m0, e0⟩ := hf 0 0 2 c0 rfl rfl
      obtain ⟨x0, g0, k0⟩ := RD.of (P := Try.prog) (α := Int) e0
      obtain rfl := (List.cons.inj g0.1).1
      obtain ⟨y1, m1, e1⟩ := hf 1 1 36 c1 rfl rfl
      obtain ⟨x1, g1, k1⟩ := RD.of (P := Try.prog) (α := (List (List Int))) e1
      exact ⟨⟨x0, x1⟩, ⟨_, rfl, g1⟩, k0, k1⟩
end Go.FX
namespace Go.Proofs.Ytogfoieenmlijaa
open Go Go.GL Go.RowKit Go.WideShapes Go.ChangeShapes Go.Deep Go.Proofs.Ytogfoieenmlijaa Go.FX

set_option maxRecDepth 100000
theorem own_ValidFrame : ownKnob Try.prog.godebug = none := by kernel_rfl
theorem laidOut_ValidFrame : laidOutB Try.prog = true := by kernel_rfl
theorem lifted_ValidFrame (os : Os) (started : os.Started) (H : Type) (enc : TypeId × Value → H) :
    ReturnsInHanded {} Try.checked os 5 .any (Rows.fnExactValidFrameSpec.pre6 enc Try.prog Try.f5 Rows.fnExactValidFrameRow.domain false) (Rows.fnExactValidFrameSpec.post enc Try.prog Try.f5 false true false false) := by
  refine returnsInHanded_of_change (C := Try.checked) own_ValidFrame started (by kernel_rfl) Try.func5
    (ChangeSpec.witness6 (enc := enc) (C := Try.checked) false ⟨#[], #[.agg #[.int .i64 0, .slice none 0 0]], []⟩ 8 (by kernel_rfl) (by kernel_rfl) (by kernel_rfl) (by kernel_rfl)) ?_
  intro W base args ds gs before hval0 hW _ _
  have hval : ∀ (j : Nat) t v, Try.f5.params[j]? = some t → args[j]? = some v → Value.okWide Try.prog W .any base t v := hval0
  have hW' := hW
  obtain ⟨p, q, hA0, hV, rfl, -, -⟩ := hW
  have hA : DataW.TrodAll enc Try.prog W 0 (fun _ => true) true Try.f5.params.toList args.toList ds p := hA0
  have hpar : Try.f5.params = #[38] := by kernel_rfl
  have hres : Try.f5.resultTypes = #[4] := by kernel_rfl
  rw [hpar] at hA hval
  obtain ⟨rfl, rfl⟩ := trodVars_none hV
  have hlt : ∀ x ∈ p, x.block < W.heap.size := fun x hx => by simpa using hW'.lt x (by simp [hx])
  have hkeep : ∀ (W' : World) (sp : Nat → Bool), Below W.heap.size W W' → (∀ x ∈ p, sp x.block = true) → DataW.TrodAll enc Try.prog W' 0 sp true Try.f5.params.toList args.toList ds p := fun W' sp hb hsp =>
    trodAll_stays laidOut_ValidFrame hb sp (by kernel_rfl) hA0 hlt hsp
  obtain ⟨v0, vs0, d0, ds0, p0, q0, ha0, hd0, hp0, h0, hr0⟩ := trodAll_cons hA
  obtain ⟨hvn, hdn, hpn⟩ := trodAll_nil hr0
  have hargs : args = #[v0] := by have e : args.toList = [v0] := (by rw [ha0, hvn]); exact Array.ext' e
  have hds : ds = [d0] := by rw [hd0, hdn]
  rw [hargs] at hval
  obtain ⟨fu0, t0⟩ := h0
  have w0 := hval 0 38 v0 rfl rfl
  obtain ⟨cs0, rfl⟩ := okWide_ft (n := 2) (L := [(0, 2), (1, 36)]) (by kernel_rfl) w0
  obtain ⟨l0, r0, g0⟩ := RD.of (P := Try.prog) (α := LFrame) t0
  obtain ⟨x0_1, e0, s0_1⟩ := r0
  obtain rfl : cs0 = #[.int .i64 l0.fCount, x0_1] := Array.ext' e0
  rw [hargs]
  refine (ok_laws_FnExactValidFrame W l0 x0_1 s0_1 true (law_ValidFrame l0 g0)).mono fun e W' he => ?_
  match e, he with
  | .returned v, ⟨hv, hst⟩ =>
    subst hv
    have hb := hst.below
    rw [hargs] at hW'
    refine ⟨_, rfl, post_below (pa := p) (pv := []) hW' (fun b sp hd => ?_) (fun sp hsp => ?_) (fun _ _ => by rw [hds]; rfl) rfl hb (fun j t r ht hr => ?_)⟩
    · rw [hres, List.append_nil, hds]
      exact trodAll_mk1 (shut_bool (by kernel_rfl) _)
    · have := hkeep W' sp hb (fun x hx => hsp x (by simp [hx]))
      rw [hargs] at this
      rw [List.append_nil, hds] at *
      exact this
    · rw [hres] at ht hr
      match j, ht, hr with
      | 0, ht, hr =>
        obtain rfl := Option.some.inj ht
        obtain rfl := Option.some.inj hr
        exact okWide_bool_mk (by kernel_rfl) _
theorem fnExactValidFrame_holds : Rows.FnExactValidFrameSaid :=
  OpenClaim.holds_of_wide 5 Try.f5 rfl rfl rfl rfl rfl rfl rfl ⟨rfl, rfl, rfl, rfl, rfl⟩ rfl rfl rfl rfl rfl (by kernel_rfl) Try.func5 (by kernel_rfl)
    (of_decide_eq_true (by kernel_rfl)) (by unfold Func.isWrapper; first | (rw [if_pos (by decide +kernel)]; kernel_rfl) | (rw [if_neg (by decide +kernel)]; exact ⟨rfl, rfl⟩))
    (fun os started H enc _ => lifted_ValidFrame os started H enc)
end Go.Proofs.Ytogfoieenmlijaa
