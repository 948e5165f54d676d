/- Proved here: the given statement FnExactEndActSaid: the law FnExactEndAct answers true, for every input that its row takes, and does no more than the row allows. Conditions: none beyond the row. The text is printed by a program of mine: the walk (..Walk texts) meets the pure part (..Laws texts). -/
import Derived.Test.YthgmjhiccdjboaaRows
import Derived.ProofKit
import Derived.Test.YthgmjhiccdjboaaSeWalk3
import Derived.Test.YthgmjhiccdjboaaSeLaws4
import Derived.Test.YthgmjhiccdjboaaSeFacts
namespace Go.FX
open Go Go.GL Go.RowKit Go.Proofs
instance : RD Try.prog Int := ⟨InR, fun h => by obtain ⟨n, rfl, -, hw⟩ := DataW.trod_int (k := .i64) (by kernel_rfl) h; exact ⟨n, ⟨rfl, trivial⟩, wf_inR hw⟩⟩
instance : RD Try.prog Bytes := ⟨fun x => x.length ≤ maxLen, fun h => by obtain ⟨s, rfl, -, hs⟩ := DataW.trod_string (by kernel_rfl) h; exact ⟨s.data.toList, ⟨congrArg (fun z => [Value.string z]) (BS_of s), trivial⟩, by rw [Array.length_toList]; exact hs⟩⟩
instance : RD Try.prog LArticle where
  good := fun x => InR x.fId ∧ x.fText.length ≤ maxLen
  of := fun {H enc w base spare held fuel cs x} h => by
    obtain ⟨hl, hf⟩ := trod_ft (n := 2) (L := [(0, 2), (1, 9)]) (by kernel_rfl) h
    match cs, hl with
    | [c0, c1], _ =>
      obtain ⟨y0, m0, e0⟩ := hf 0 0 2 c0 rfl rfl
      obtain ⟨x0, g0, k0⟩ := RD.of (P := Try.prog) (α := Int) e0
      obtain rfl := (List.cons.inj g0.1).1
      obtain ⟨y1, m1, e1⟩ := hf 1 1 9 c1 rfl rfl
      obtain ⟨x1, g1, k1⟩ := RD.of (P := Try.prog) (α := Bytes) e1
      obtain rfl := (List.cons.inj g1.1).1
      exact ⟨⟨x0, x1⟩, ⟨rfl, trivial⟩, k0, k1⟩
instance : RD Try.prog ((List LArticle)) := RD.list (by kernel_rfl) (fun h => h)
instance : RD Try.prog LEdit where
  good := fun x => InR x.fKind ∧ InR x.fId ∧ x.fOld.length ≤ maxLen ∧ x.fNew.length ≤ maxLen
  of := fun {H enc w base spare held fuel cs x} h => by
    obtain ⟨hl, hf⟩ := trod_ft (n := 4) (L := [(0, 2), (1, 2), (2, 9), (3, 9)]) (by kernel_rfl) h
    match cs, hl with
    | [c0, c1, c2, c3], _ =>
      obtain ⟨y0, m0, e0⟩ := hf 0 0 2 c0 rfl rfl
      obtain ⟨x0, g0, k0⟩ := RD.of (P := Try.prog) (α := Int) e0
      obtain rfl := (List.cons.inj g0.1).1
      obtain ⟨y1, m1, e1⟩ := hf 1 1 2 c1 rfl rfl
      obtain ⟨x1, g1, k1⟩ := RD.of (P := Try.prog) (α := Int) e1
      obtain rfl := (List.cons.inj g1.1).1
      obtain ⟨y2, m2, e2⟩ := hf 2 2 9 c2 rfl rfl
      obtain ⟨x2, g2, k2⟩ := RD.of (P := Try.prog) (α := Bytes) e2
      obtain rfl := (List.cons.inj g2.1).1
      obtain ⟨y3, m3, e3⟩ := hf 3 3 9 c3 rfl rfl
      obtain ⟨x3, g3, k3⟩ := RD.of (P := Try.prog) (α := Bytes) e3
      obtain rfl := (List.cons.inj g3.1).1
      exact ⟨⟨x0, x1, x2, x3⟩, ⟨rfl, trivial⟩, k0, k1, k2, k3⟩
instance : RD Try.prog ((List LEdit)) := RD.list (by kernel_rfl) (fun h => h)
instance : RD Try.prog LAct where
  good := fun x => InR x.fFrom ∧ InR x.fUntil ∧ RD.good Try.prog x.fPatch
  of := fun {H enc w base spare held fuel cs x} h => by
    obtain ⟨hl, hf⟩ := trod_ft (n := 3) (L := [(0, 2), (1, 2), (2, 37)]) (by kernel_rfl) h
    match cs, hl with
    | [c0, c1, c2], _ =>
      obtain ⟨y0, m0, e0⟩ := hf 0 0 2 c0 rfl rfl
      obtain ⟨x0, g0, k0⟩ := RD.of (P := Try.prog) (α := Int) e0
      obtain rfl := (List.cons.inj g0.1).1
      obtain ⟨y1, m1, e1⟩ := hf 1 1 2 c1 rfl rfl
      obtain ⟨x1, g1, k1⟩ := RD.of (P := Try.prog) (α := Int) e1
      obtain rfl := (List.cons.inj g1.1).1
      obtain ⟨y2, m2, e2⟩ := hf 2 2 37 c2 rfl rfl
      obtain ⟨x2, g2, k2⟩ := RD.of (P := Try.prog) (α := (List LEdit)) e2
      exact ⟨⟨x0, x1, x2⟩, ⟨_, rfl, g2⟩, k0, k1, k2⟩
instance : RD Try.prog ((List LAct)) := RD.list (by kernel_rfl) (fun h => h)
end Go.FX
namespace Go.Proofs.Ythgmjhiccdjboaa
open Go Go.GL Go.RowKit Go.WideShapes Go.ChangeShapes Go.Deep Go.Proofs.Ythgmjhiccdjboaa Go.FX

set_option maxRecDepth 100000
theorem lifted_EndAct (os : Os) (started : os.Started) (H : Type) (enc : TypeId × Value → H) :
    ReturnsInHanded {} Try.checked os 3 .any (Rows.fnExactEndActSpec.pre6 enc Try.prog Try.f3 Rows.fnExactEndActRow.domain false) (Rows.fnExactEndActSpec.post enc Try.prog Try.f3 false true false false) := by
  refine returnsInHanded_of_change (C := Try.checked) q_own started (by kernel_rfl) Try.func3
    (ChangeSpec.witness6 (enc := enc) (C := Try.checked) false ⟨#[], #[.slice none 0 0, .slice none 0 0, .int .i64 0, .int .i64 0], []⟩ 8 (by kernel_rfl) (by kernel_rfl) (by kernel_rfl) (by kernel_rfl)) ?_
  intro W base args ds gs before hval0 hW _ _
  have hval : ∀ (j : Nat) t v, Try.f3.params[j]? = some t → args[j]? = some v → Value.okWide Try.prog W .any base t v := hval0
  have hW' := hW
  obtain ⟨p, q, hA0, hV, rfl, -, -⟩ := hW
  have hA : DataW.TrodAll enc Try.prog W 0 (fun _ => true) true Try.f3.params.toList args.toList ds p := hA0
  have hpar : Try.f3.params = #[22, 23, 2, 2] := by kernel_rfl
  have hres : Try.f3.resultTypes = #[4] := by kernel_rfl
  rw [hpar] at hA hval
  obtain ⟨rfl, rfl⟩ := trodVars_none hV
  have hlt : ∀ x ∈ p, x.block < W.heap.size := fun x hx => by simpa using hW'.lt x (by simp [hx])
  have hkeep : ∀ (W' : World) (sp : Nat → Bool), Below W.heap.size W W' → (∀ x ∈ p, sp x.block = true) → DataW.TrodAll enc Try.prog W' 0 sp true Try.f3.params.toList args.toList ds p := fun W' sp hb hsp =>
    trodAll_stays q2 hb sp (by kernel_rfl) hA0 hlt hsp
  obtain ⟨v0, vs0, d0, ds0, p0, q0, ha0, hd0, hp0, h0, hr0⟩ := trodAll_cons hA
  obtain ⟨v1, vs1, d1, ds1, p1, q1, ha1, hd1, hp1, h1, hr1⟩ := trodAll_cons hr0
  obtain ⟨v2, vs2, d2, ds2, p2, q2, ha2, hd2, hp2, h2, hr2⟩ := trodAll_cons hr1
  obtain ⟨v3, vs3, d3, ds3, p3, q3, ha3, hd3, hp3, h3, hr3⟩ := trodAll_cons hr2
  obtain ⟨hvn, hdn, hpn⟩ := trodAll_nil hr3
  have hargs : args = #[v0, v1, v2, v3] := by have e : args.toList = [v0, v1, v2, v3] := (by rw [ha0, ha1, ha2, ha3, hvn]); exact Array.ext' e
  have hds : ds = [d0, d1, d2, d3] := by rw [hd0, hd1, hd2, hd3, hdn]
  rw [hargs] at hval
  obtain ⟨fu0, t0⟩ := h0
  have w0 := hval 0 22 v0 rfl rfl
  obtain ⟨aa0, ll0, cc0, rfl⟩ := okWide_slice (e := 66) (by kernel_rfl) w0
  obtain ⟨l0, r0, g0⟩ := rdL_of (P := Try.prog) (α := LArticle) (by kernel_rfl) t0
  obtain ⟨fu1, t1⟩ := h1
  have w1 := hval 1 23 v1 rfl rfl
  obtain ⟨aa1, ll1, cc1, rfl⟩ := okWide_slice (e := 69) (by kernel_rfl) w1
  obtain ⟨l1, r1, g1⟩ := rdL_of (P := Try.prog) (α := LAct) (by kernel_rfl) t1
  obtain ⟨fu2, t2⟩ := h2
  have w2 := hval 2 2 v2 rfl rfl
  obtain ⟨l2, e2, -, k2⟩ := DataW.trod_int (k := .i64) (by kernel_rfl) t2
  obtain ⟨n2, rfl⟩ := okWide_int (k := .i64) (by kernel_rfl) w2
  obtain rfl : n2 = l2 := by simpa [Value.cells] using e2
  obtain ⟨fu3, t3⟩ := h3
  have w3 := hval 3 2 v3 rfl rfl
  obtain ⟨l3, e3, -, k3⟩ := DataW.trod_int (k := .i64) (by kernel_rfl) t3
  obtain ⟨n3, rfl⟩ := okWide_int (k := .i64) (by kernel_rfl) w3
  obtain rfl : n3 = l3 := by simpa [Value.cells] using e3
  rw [hargs]
  refine (ok_laws_FnExactEndAct W _ l0 r0 _ l1 r1 n2 n3 true (law_EndAct l0 g0 l1 g1 n2 (wf_inR k2) n3 (wf_inR k3))).mono fun e W' he => ?_
  match e, he with
  | .returned v, ⟨hv, hst⟩ =>
    subst hv
    have hb := hst.below
    rw [hargs] at hW'
    refine ⟨_, rfl, post_below (pa := p) (pv := []) hW' (fun b sp hd => ?_) (fun sp hsp => ?_) (fun _ _ => by rw [hds]; rfl) rfl hb (fun j t r ht hr => ?_)⟩
    · rw [hres, List.append_nil, hds]
      exact trodAll_mk1 (shut_bool (by kernel_rfl) _)
    · have := hkeep W' sp hb (fun x hx => hsp x (by simp [hx]))
      rw [hargs] at this
      rw [List.append_nil, hds] at *
      exact this
    · rw [hres] at ht hr
      match j, ht, hr with
      | 0, ht, hr =>
        obtain rfl := Option.some.inj ht
        obtain rfl := Option.some.inj hr
        exact okWide_bool_mk (by kernel_rfl) _
theorem l10_EndAct : (Rows.fnExactEndActRow.inPlace == Try.prog.inPlace 3) = true := by kernel_rfl
theorem l11_EndAct : (Rows.fnExactEndActRow.unfollowed == Try.prog.unfollowed 3) = true := by kernel_rfl
theorem l12_EndAct : (Rows.fnExactEndActRow.recurses == Try.prog.recurses 3) = true := by kernel_rfl
theorem l13_EndAct : (Rows.fnExactEndActRow.named == Try.prog.varsNamed 3) = true := by kernel_rfl
theorem joined_EndAct : joinedFacts Try.prog 3 Try.f3 Rows.fnExactEndActSpec Rows.fnExactEndActRow = true :=
  joined_of (by kernel_rfl) q2 q3 (by kernel_rfl) (by kernel_rfl) (by kernel_rfl) q7 (by kernel_rfl) q9 l10_EndAct l11_EndAct l12_EndAct l13_EndAct (by kernel_rfl) (by kernel_rfl) (by kernel_rfl) (by kernel_rfl) (by kernel_rfl) (by kernel_rfl) (by kernel_rfl) (by kernel_rfl) (by kernel_rfl) q23 (by kernel_rfl) q25 q26 q27 q28 (by kernel_rfl) (by kernel_rfl) (by kernel_rfl) (by kernel_rfl)
theorem named_EndAct : Try.prog.funcNamed Rows.fnExactEndActRow.func = some 3 := by kernel_rfl
theorem inst_EndAct : Try.f3.isInstance Try.prog Rows.fnExactEndActRow.origin Rows.fnExactEndActRow.targs := of_decide_eq_true (by kernel_rfl)
theorem wrap_EndAct : Try.f3.isWrapper Try.prog Rows.fnExactEndActRow.wrapper Rows.fnExactEndActRow.mainSum := by unfold Func.isWrapper; first | (rw [if_pos (by decide +kernel)]; kernel_rfl) | (rw [if_neg (by decide +kernel)]; exact ⟨rfl, rfl⟩)
theorem fnExactEndAct_holds : Rows.FnExactEndActSaid :=
  OpenClaim.holds_of_wide 3 Try.f3 rfl rfl rfl rfl rfl rfl rfl ⟨rfl, rfl, rfl, rfl, rfl⟩ rfl rfl rfl rfl rfl named_EndAct Try.func3 joined_EndAct inst_EndAct wrap_EndAct
    (fun os started H enc _ => lifted_EndAct os started H enc)
end Go.Proofs.Ythgmjhiccdjboaa
