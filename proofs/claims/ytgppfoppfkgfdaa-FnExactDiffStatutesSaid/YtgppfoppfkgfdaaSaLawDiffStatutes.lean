/- Proved here: the given statement FnExactDiffStatutesSaid: the law FnExactDiffStatutes answers true, for every input that its row takes, and does no more than the row allows. Conditions: none beyond the row. The text is printed by a program of mine: the walk (..Walk texts) meets the pure part (..Laws texts). -/
import Derived.Test.YtgppfoppfkgfdaaRows
import Derived.ProofKit
import Derived.Test.YtgppfoppfkgfdaaSaWalk4
import Derived.Test.YtgppfoppfkgfdaaSaLaws1
import Derived.Test.YtgppfoppfkgfdaaSaFacts
namespace Go.FX
open Go Go.GL Go.RowKit Go.Proofs
instance : RD Try.prog Int := ⟨InR, fun h => by obtain ⟨n, rfl, -, hw⟩ := DataW.trod_int (k := .i64) (by kernel_rfl) h; exact ⟨n, ⟨rfl, trivial⟩, wf_inR hw⟩⟩
instance : RD Try.prog Bytes := ⟨fun x => x.length ≤ maxLen, fun h => by obtain ⟨s, rfl, -, hs⟩ := DataW.trod_string (by kernel_rfl) h; exact ⟨s.data.toList, ⟨congrArg (fun z => [Value.string z]) (BS_of s), trivial⟩, by rw [Array.length_toList]; exact hs⟩⟩
instance : RD Try.prog LArticle where
  good := fun x => InR x.fId ∧ x.fText.length ≤ maxLen
  of := fun {H enc w base spare held fuel cs x} h => by
    obtain ⟨hl, hf⟩ := trod_ft (n := 2) (L := [(0, 2), (1, 9)]) (by kernel_rfl) h
    match cs, hl with
    | [c0, c1], _ =>
      obtain ⟨y0, m0, e0⟩ := hf 0 0 2 c0 rfl rfl
      obtain ⟨x0, g0, k0⟩ := RD.of (P := Try.prog) (α := Int) e0
      obtain rfl := (List.cons.inj g0.1).1
      obtain ⟨y1, m1, e1⟩ := hf 1 1 9 c1 rfl rfl
      obtain ⟨x1, g1, k1⟩ := RD.of (P := Try.prog) (α := Bytes) e1
      obtain rfl := (List.cons.inj g1.1).1
      exact ⟨⟨x0, x1⟩, ⟨rfl, trivial⟩, k0, k1⟩
instance : RD Try.prog ((List LArticle)) := RD.list (by kernel_rfl) (fun h => h)
end Go.FX
namespace Go.Proofs.Ytgppfoppfkgfdaa
open Go Go.GL Go.RowKit Go.WideShapes Go.ChangeShapes Go.Deep Go.Proofs.Ytgppfoppfkgfdaa Go.FX

set_option maxRecDepth 100000
theorem lifted_DiffStatutes (os : Os) (started : os.Started) (H : Type) (enc : TypeId × Value → H) :
    ReturnsInHanded {} Try.checked os 9 .any (Rows.fnExactDiffStatutesSpec.pre6 enc Try.prog Try.f9 Rows.fnExactDiffStatutesRow.domain false) (Rows.fnExactDiffStatutesSpec.post enc Try.prog Try.f9 false true false false) := by
  refine returnsInHanded_of_change (C := Try.checked) q_own started (by kernel_rfl) Try.func9
    (ChangeSpec.witness6 (enc := enc) (C := Try.checked) false ⟨#[], #[.slice none 0 0, .slice none 0 0], []⟩ 8 (by kernel_rfl) (by kernel_rfl) (by kernel_rfl) (by kernel_rfl)) ?_
  intro W base args ds gs before hval0 hW _ _
  have hval : ∀ (j : Nat) t v, Try.f9.params[j]? = some t → args[j]? = some v → Value.okWide Try.prog W .any base t v := hval0
  have hW' := hW
  obtain ⟨p, q, hA0, hV, rfl, -, -⟩ := hW
  have hA : DataW.TrodAll enc Try.prog W 0 (fun _ => true) true Try.f9.params.toList args.toList ds p := hA0
  have hpar : Try.f9.params = #[22, 22] := by kernel_rfl
  have hres : Try.f9.resultTypes = #[4] := by kernel_rfl
  rw [hpar] at hA hval
  obtain ⟨rfl, rfl⟩ := trodVars_none hV
  have hlt : ∀ x ∈ p, x.block < W.heap.size := fun x hx => by simpa using hW'.lt x (by simp [hx])
  have hkeep : ∀ (W' : World) (sp : Nat → Bool), Below W.heap.size W W' → (∀ x ∈ p, sp x.block = true) → DataW.TrodAll enc Try.prog W' 0 sp true Try.f9.params.toList args.toList ds p := fun W' sp hb hsp =>
    trodAll_stays q2 hb sp (by kernel_rfl) hA0 hlt hsp
  obtain ⟨v0, vs0, d0, ds0, p0, q0, ha0, hd0, hp0, h0, hr0⟩ := trodAll_cons hA
  obtain ⟨v1, vs1, d1, ds1, p1, q1, ha1, hd1, hp1, h1, hr1⟩ := trodAll_cons hr0
  obtain ⟨hvn, hdn, hpn⟩ := trodAll_nil hr1
  have hargs : args = #[v0, v1] := by have e : args.toList = [v0, v1] := (by rw [ha0, ha1, hvn]); exact Array.ext' e
  have hds : ds = [d0, d1] := by rw [hd0, hd1, hdn]
  rw [hargs] at hval
  obtain ⟨fu0, t0⟩ := h0
  have w0 := hval 0 22 v0 rfl rfl
  obtain ⟨aa0, ll0, cc0, rfl⟩ := okWide_slice (e := 78) (by kernel_rfl) w0
  obtain ⟨l0, r0, g0⟩ := rdL_of (P := Try.prog) (α := LArticle) (by kernel_rfl) t0
  obtain ⟨fu1, t1⟩ := h1
  have w1 := hval 1 22 v1 rfl rfl
  obtain ⟨aa1, ll1, cc1, rfl⟩ := okWide_slice (e := 78) (by kernel_rfl) w1
  obtain ⟨l1, r1, g1⟩ := rdL_of (P := Try.prog) (α := LArticle) (by kernel_rfl) t1
  rw [hargs]
  refine (ok_laws_FnExactDiffStatutes W _ l0 r0 _ l1 r1 true (law_DiffStatutes l0 g0 l1 g1)).mono fun e W' he => ?_
  match e, he with
  | .returned v, ⟨hv, hst⟩ =>
    subst hv
    have hb := hst.below
    rw [hargs] at hW'
    refine ⟨_, rfl, post_below (pa := p) (pv := []) hW' (fun b sp hd => ?_) (fun sp hsp => ?_) (fun _ _ => by rw [hds]; rfl) rfl hb (fun j t r ht hr => ?_)⟩
    · rw [hres, List.append_nil, hds]
      exact trodAll_mk1 (shut_bool (by kernel_rfl) _)
    · have := hkeep W' sp hb (fun x hx => hsp x (by simp [hx]))
      rw [hargs] at this
      rw [List.append_nil, hds] at *
      exact this
    · rw [hres] at ht hr
      match j, ht, hr with
      | 0, ht, hr =>
        obtain rfl := Option.some.inj ht
        obtain rfl := Option.some.inj hr
        exact okWide_bool_mk (by kernel_rfl) _
theorem l10_DiffStatutes : (Rows.fnExactDiffStatutesRow.inPlace == Try.prog.inPlace 9) = true := by kernel_rfl
theorem l11_DiffStatutes : (Rows.fnExactDiffStatutesRow.unfollowed == Try.prog.unfollowed 9) = true := by kernel_rfl
theorem l12_DiffStatutes : (Rows.fnExactDiffStatutesRow.recurses == Try.prog.recurses 9) = true := by kernel_rfl
theorem l13_DiffStatutes : (Rows.fnExactDiffStatutesRow.named == Try.prog.varsNamed 9) = true := by kernel_rfl
theorem joined_DiffStatutes : joinedFacts Try.prog 9 Try.f9 Rows.fnExactDiffStatutesSpec Rows.fnExactDiffStatutesRow = true :=
  joined_of (by kernel_rfl) q2 q3 (by kernel_rfl) (by kernel_rfl) (by kernel_rfl) q7 (by kernel_rfl) q9 l10_DiffStatutes l11_DiffStatutes l12_DiffStatutes l13_DiffStatutes (by kernel_rfl) (by kernel_rfl) (by kernel_rfl) (by kernel_rfl) (by kernel_rfl) (by kernel_rfl) (by kernel_rfl) (by kernel_rfl) (by kernel_rfl) q23 (by kernel_rfl) q25 q26 q27 q28 (by kernel_rfl) (by kernel_rfl) (by kernel_rfl) (by kernel_rfl)
theorem named_DiffStatutes : Try.prog.funcNamed Rows.fnExactDiffStatutesRow.func = some 9 := by kernel_rfl
theorem inst_DiffStatutes : Try.f9.isInstance Try.prog Rows.fnExactDiffStatutesRow.origin Rows.fnExactDiffStatutesRow.targs := of_decide_eq_true (by kernel_rfl)
theorem wrap_DiffStatutes : Try.f9.isWrapper Try.prog Rows.fnExactDiffStatutesRow.wrapper Rows.fnExactDiffStatutesRow.mainSum := by unfold Func.isWrapper; first | (rw [if_pos (by decide +kernel)]; kernel_rfl) | (rw [if_neg (by decide +kernel)]; exact ⟨rfl, rfl⟩)
theorem fnExactDiffStatutes_holds : Rows.FnExactDiffStatutesSaid :=
  OpenClaim.holds_of_wide 9 Try.f9 rfl rfl rfl rfl rfl rfl rfl ⟨rfl, rfl, rfl, rfl, rfl⟩ rfl rfl rfl rfl rfl named_DiffStatutes Try.func9 joined_DiffStatutes inst_DiffStatutes wrap_DiffStatutes
    (fun os started H enc _ => lifted_DiffStatutes os started H enc)
end Go.Proofs.Ytgppfoppfkgfdaa
