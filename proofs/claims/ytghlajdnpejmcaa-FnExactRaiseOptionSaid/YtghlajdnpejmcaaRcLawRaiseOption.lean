/- Proved here: the given statement FnExactRaiseOptionSaid: the law FnExactRaiseOption answers true, for every input that its row takes, and does no more than the row allows. Conditions: none beyond the row. The text is printed by a program of mine: the walk (..Walk texts) meets the pure part (..Laws texts). -/
import Derived.Test.YtghlajdnpejmcaaRows
import Derived.ProofKit
import Derived.Test.YtghlajdnpejmcaaRcWalk2
import Derived.Test.YtghlajdnpejmcaaRcLaws3
import Derived.Test.YtghlajdnpejmcaaRcFacts
namespace Go.FX
open Go Go.GL Go.RowKit Go.Proofs
instance : RD Try.prog Int := ⟨InR, fun h => by obtain ⟨n, rfl, -, hw⟩ := DataW.trod_int (k := .i64) (by kernel_rfl) h; exact ⟨n, ⟨rfl, trivial⟩, wf_inR hw⟩⟩
instance : RD Try.prog ((List Int)) := RD.list (by kernel_rfl) (fun h => h)
instance : RD Try.prog ((List (List Int))) := RD.list (by kernel_rfl) (fun h => h)
instance : RD Try.prog LProfile where
  good := fun x => RD.good Try.prog x.fRankings ∧ RD.good Try.prog x.fWeights
  of := fun {H enc w base spare held fuel cs x} h => by
    obtain ⟨hl, hf⟩ := trod_ft (n := 2) (L := [(0, 22), (1, 23)]) (by kernel_rfl) h
    match cs, hl with
    | [c0, c1], _ =>
      obtain ⟨y0, m0, e0⟩ := hf 0 0 22 c0 rfl rfl
      obtain ⟨x0, g0, k0⟩ := RD.of (P := Try.prog) (α := (List (List Int))) e0
      obtain ⟨y1, m1, e1⟩ := hf 1 1 23 c1 rfl rfl
      obtain ⟨x1, g1, k1⟩ := RD.of (P := Try.prog) (α := (List Int)) e1
      exact ⟨⟨x0, x1⟩, ⟨_, _, rfl, g0, g1⟩, k0, k1⟩
end Go.FX
namespace Go.Proofs.Ytghlajdnpejmcaa
open Go Go.GL Go.RowKit Go.WideShapes Go.ChangeShapes Go.Deep Go.Proofs.Ytghlajdnpejmcaa Go.FX

set_option maxRecDepth 100000
theorem lifted_RaiseOption (os : Os) (started : os.Started) (H : Type) (enc : TypeId × Value → H) :
    ReturnsInHanded {} Try.checked os 9 .any (Rows.fnExactRaiseOptionSpec.pre6 enc Try.prog Try.f9 Rows.fnExactRaiseOptionRow.domain false) (Rows.fnExactRaiseOptionSpec.post enc Try.prog Try.f9 false true false false) := by
  refine returnsInHanded_of_change (C := Try.checked) q_own started (by kernel_rfl) Try.func9
    (ChangeSpec.witness6 (enc := enc) (C := Try.checked) false ⟨#[], #[.agg #[.slice none 0 0, .slice none 0 0], .int .i64 0, .int .i64 0], []⟩ 8 (by kernel_rfl) (by kernel_rfl) (by kernel_rfl) (by kernel_rfl)) ?_
  intro W base args ds gs before hval0 hW _ _
  have hval : ∀ (j : Nat) t v, Try.f9.params[j]? = some t → args[j]? = some v → Value.okWide Try.prog W .any base t v := hval0
  have hW' := hW
  obtain ⟨p, q, hA0, hV, rfl, -, -⟩ := hW
  have hA : DataW.TrodAll enc Try.prog W 0 (fun _ => true) true Try.f9.params.toList args.toList ds p := hA0
  have hpar : Try.f9.params = #[25, 2, 2] := by kernel_rfl
  have hres : Try.f9.resultTypes = #[4] := by kernel_rfl
  rw [hpar] at hA hval
  obtain ⟨rfl, rfl⟩ := trodVars_none hV
  have hlt : ∀ x ∈ p, x.block < W.heap.size := fun x hx => by simpa using hW'.lt x (by simp [hx])
  have hkeep : ∀ (W' : World) (sp : Nat → Bool), Below W.heap.size W W' → (∀ x ∈ p, sp x.block = true) → DataW.TrodAll enc Try.prog W' 0 sp true Try.f9.params.toList args.toList ds p := fun W' sp hb hsp =>
    trodAll_stays q2 hb sp (by kernel_rfl) hA0 hlt hsp
  obtain ⟨v0, vs0, d0, ds0, p0, q0, ha0, hd0, hp0, h0, hr0⟩ := trodAll_cons hA
  obtain ⟨v1, vs1, d1, ds1, p1, q1, ha1, hd1, hp1, h1, hr1⟩ := trodAll_cons hr0
  obtain ⟨v2, vs2, d2, ds2, p2, q2, ha2, hd2, hp2, h2, hr2⟩ := trodAll_cons hr1
  obtain ⟨hvn, hdn, hpn⟩ := trodAll_nil hr2
  have hargs : args = #[v0, v1, v2] := by have e : args.toList = [v0, v1, v2] := (by rw [ha0, ha1, ha2, hvn]); exact Array.ext' e
  have hds : ds = [d0, d1, d2] := by rw [hd0, hd1, hd2, hdn]
  rw [hargs] at hval
  obtain ⟨fu0, t0⟩ := h0
  have w0 := hval 0 25 v0 rfl rfl
  obtain ⟨cs0, rfl⟩ := okWide_ft (n := 2) (L := [(0, 22), (1, 23)]) (by kernel_rfl) w0
  obtain ⟨l0, r0, g0⟩ := RD.of (P := Try.prog) (α := LProfile) t0
  obtain ⟨x0_0, x0_1, e0, s0_0, s0_1⟩ := r0
  obtain rfl : cs0 = #[x0_0, x0_1] := Array.ext' e0
  obtain ⟨fu1, t1⟩ := h1
  have w1 := hval 1 2 v1 rfl rfl
  obtain ⟨l1, e1, -, k1⟩ := DataW.trod_int (k := .i64) (by kernel_rfl) t1
  obtain ⟨n1, rfl⟩ := okWide_int (k := .i64) (by kernel_rfl) w1
  obtain rfl : n1 = l1 := by simpa [Value.cells] using e1
  obtain ⟨fu2, t2⟩ := h2
  have w2 := hval 2 2 v2 rfl rfl
  obtain ⟨l2, e2, -, k2⟩ := DataW.trod_int (k := .i64) (by kernel_rfl) t2
  obtain ⟨n2, rfl⟩ := okWide_int (k := .i64) (by kernel_rfl) w2
  obtain rfl : n2 = l2 := by simpa [Value.cells] using e2
  rw [hargs]
  refine (ok_laws_FnExactRaiseOption W l0 x0_0 s0_0 x0_1 s0_1 n1 n2 true (law_RaiseOption l0 g0 n1 (wf_inR k1) n2 (wf_inR k2))).mono fun e W' he => ?_
  match e, he with
  | .returned v, ⟨hv, hst⟩ =>
    subst hv
    have hb := hst.below
    rw [hargs] at hW'
    refine ⟨_, rfl, post_below (pa := p) (pv := []) hW' (fun b sp hd => ?_) (fun sp hsp => ?_) (fun _ _ => by rw [hds]; rfl) rfl hb (fun j t r ht hr => ?_)⟩
    · rw [hres, List.append_nil, hds]
      exact trodAll_mk1 (shut_bool (by kernel_rfl) _)
    · have := hkeep W' sp hb (fun x hx => hsp x (by simp [hx]))
      rw [hargs] at this
      rw [List.append_nil, hds] at *
      exact this
    · rw [hres] at ht hr
      match j, ht, hr with
      | 0, ht, hr =>
        obtain rfl := Option.some.inj ht
        obtain rfl := Option.some.inj hr
        exact okWide_bool_mk (by kernel_rfl) _
theorem l10_RaiseOption : (Rows.fnExactRaiseOptionRow.inPlace == Try.prog.inPlace 9) = true := by kernel_rfl
theorem l11_RaiseOption : (Rows.fnExactRaiseOptionRow.unfollowed == Try.prog.unfollowed 9) = true := by kernel_rfl
theorem l12_RaiseOption : (Rows.fnExactRaiseOptionRow.recurses == Try.prog.recurses 9) = true := by kernel_rfl
theorem l13_RaiseOption : (Rows.fnExactRaiseOptionRow.named == Try.prog.varsNamed 9) = true := by kernel_rfl
theorem joined_RaiseOption : joinedFacts Try.prog 9 Try.f9 Rows.fnExactRaiseOptionSpec Rows.fnExactRaiseOptionRow = true :=
  joined_of (by kernel_rfl) q2 q3 (by kernel_rfl) (by kernel_rfl) (by kernel_rfl) q7 (by kernel_rfl) q9 l10_RaiseOption l11_RaiseOption l12_RaiseOption l13_RaiseOption (by kernel_rfl) (by kernel_rfl) (by kernel_rfl) (by kernel_rfl) (by kernel_rfl) (by kernel_rfl) (by kernel_rfl) (by kernel_rfl) (by kernel_rfl) q23 (by kernel_rfl) q25 q26 q27 q28 (by kernel_rfl) (by kernel_rfl) (by kernel_rfl) (by kernel_rfl)
theorem named_RaiseOption : Try.prog.funcNamed Rows.fnExactRaiseOptionRow.func = some 9 := by kernel_rfl
theorem inst_RaiseOption : Try.f9.isInstance Try.prog Rows.fnExactRaiseOptionRow.origin Rows.fnExactRaiseOptionRow.targs := of_decide_eq_true (by kernel_rfl)
theorem wrap_RaiseOption : Try.f9.isWrapper Try.prog Rows.fnExactRaiseOptionRow.wrapper Rows.fnExactRaiseOptionRow.mainSum := by unfold Func.isWrapper; first | (rw [if_pos (by decide +kernel)]; kernel_rfl) | (rw [if_neg (by decide +kernel)]; exact ⟨rfl, rfl⟩)
theorem fnExactRaiseOption_holds : Rows.FnExactRaiseOptionSaid :=
  OpenClaim.holds_of_wide 9 Try.f9 rfl rfl rfl rfl rfl rfl rfl ⟨rfl, rfl, rfl, rfl, rfl⟩ rfl rfl rfl rfl rfl named_RaiseOption Try.func9 joined_RaiseOption inst_RaiseOption wrap_RaiseOption
    (fun os started H enc _ => lifted_RaiseOption os started H enc)
end Go.Proofs.Ytghlajdnpejmcaa
