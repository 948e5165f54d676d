/- Proved here: the given statement FnExactPatchTextCardSaid: the law FnExactPatchText answers true, for every input that its row takes, and does no more than the row allows. The package variables that it reads are tied by the given Tie and Cards texts. Conditions: none beyond the row. The text is printed by a program of mine: the walk (..Walk texts) meets the pure part (..Laws texts). -/
import Derived.Test.YthgmjhiccdjboaaDoorRows
import Derived.ProofKit
import Derived.Test.YthgmjhiccdjboaaDoorTaWalk2
import Derived.Test.YthgmjhiccdjboaaDoorTaLaws1
import Derived.Test.YthgmjhiccdjboaaDoorTaFacts
import Derived.Test.YthgmjhiccdjboaaDoorTie
import Derived.Test.YthgmjhiccdjboaaDoorCards
import Derived.LaidMore
import Derived.Stop.Joined
import Derived.SevenTiedAt
namespace Go.FX
open Go Go.GL Go.RowKit Go.Proofs
instance : RD Tryd.prog Int := ⟨InR, fun h => by obtain ⟨n, rfl, -, hw⟩ := DataW.trod_int (k := .i64) (by kernel_rfl) h; exact ⟨n, ⟨rfl, trivial⟩, wf_inR hw⟩⟩
instance : RD Tryd.prog Bytes := ⟨fun x => x.length ≤ maxLen, fun h => by obtain ⟨s, rfl, -, hs⟩ := DataW.trod_string (by kernel_rfl) h; exact ⟨s.data.toList, ⟨congrArg (fun z => [Value.string z]) (BS_of s), trivial⟩, by rw [Array.length_toList]; exact hs⟩⟩
instance : RD Tryd.prog LEdit where
  good := fun x => InR x.fKind ∧ InR x.fId ∧ x.fOld.length ≤ maxLen ∧ x.fNew.length ≤ maxLen
  of := fun {H enc w base spare held fuel cs x} h => by
    obtain ⟨hl, hf⟩ := trod_ft (n := 4) (L := [(0, 2), (1, 2), (2, 9), (3, 9)]) (by kernel_rfl) h
    match cs, hl with
    | [c0, c1, c2, c3], _ =>
      obtain ⟨y0, m0, e0⟩ := hf 0 0 2 c0 rfl rfl
      obtain ⟨x0, g0, k0⟩ := RD.of (P := Tryd.prog) (α := Int) e0
      obtain rfl := (List.cons.inj g0.1).1
      obtain ⟨y1, m1, e1⟩ := hf 1 1 2 c1 rfl rfl
      obtain ⟨x1, g1, k1⟩ := RD.of (P := Tryd.prog) (α := Int) e1
      obtain rfl := (List.cons.inj g1.1).1
      obtain ⟨y2, m2, e2⟩ := hf 2 2 9 c2 rfl rfl
      obtain ⟨x2, g2, k2⟩ := RD.of (P := Tryd.prog) (α := Bytes) e2
      obtain rfl := (List.cons.inj g2.1).1
      obtain ⟨y3, m3, e3⟩ := hf 3 3 9 c3 rfl rfl
      obtain ⟨x3, g3, k3⟩ := RD.of (P := Tryd.prog) (α := Bytes) e3
      obtain rfl := (List.cons.inj g3.1).1
      exact ⟨⟨x0, x1, x2, x3⟩, ⟨rfl, trivial⟩, k0, k1, k2, k3⟩
instance : RD Tryd.prog ((List LEdit)) := RD.list (by kernel_rfl) (fun h => h)
end Go.FX
namespace Go.Proofs.YthgmjhiccdjboaaDoor
open Go Go.GL Go.RowKit Go.WideShapes Go.ChangeShapes Go.Deep Go.Proofs.YthgmjhiccdjboaaDoor Go.FX

set_option maxRecDepth 100000
theorem door_PatchText (os : Os) (args : Array Value) : laidMetH Tryd.prog Rows.fnExactPatchTextRow.laid ((World.doorLaid Tryd.prog 400 os).forCall (fun _ _ => 0) ⟨#[], args, []⟩).memory :=
  laidMetH_of_parts3 (fuel := 8) (laidMet_of_run' 8 (by kernel_rfl) (by kernel_rfl)) (by kernel_rfl) (by kernel_rfl)
theorem lifted_PatchText (os : Os) (started : os.Started) (H : Type) (enc : TypeId × Value → H) :
    ReturnsInHanded {} Tryd.checked os 4 .any (fun w args => (Rows.fnExactPatchTextSpec.pre enc Tryd.prog Tryd.f4 [] false w args ∧ laidMetH Tryd.prog Rows.fnExactPatchTextRow.laid w) ∧ sizedMet enc Tryd.prog Tryd.f4 (OpenSpec.ofChange Rows.fnExactPatchTextSpec) false w args) (Rows.fnExactPatchTextSpec.post enc Tryd.prog Tryd.f4 false true false false) := by
  refine returnsInHanded_of_change_and (C := Tryd.checked) (X := fun w _ => laidMetH Tryd.prog Rows.fnExactPatchTextRow.laid w) (fun _ _ _ hh h => h.of_heap hh) q_own started (by kernel_rfl) Tryd.func4
    (ChangeSpec.witness_shaped (enc := enc) (C := Tryd.checked) (os := os) (X := fun w _ => laidMetH Tryd.prog Rows.fnExactPatchTextRow.laid w) false (World.doorLaid Tryd.prog 400 os) #[.slice none 0 0] 8 rfl (World.shaped_of_RefB (by kernel_rfl) (by kernel_rfl)) (by kernel_rfl) (by kernel_rfl) (by kernel_rfl) (door_PatchText os _)) ?_
  intro W base args ds gs before hval0 hW _ _ _ _
  have hval : ∀ (j : Nat) t v, Tryd.f4.params[j]? = some t → args[j]? = some v → Value.okWide Tryd.prog W .any base t v := hval0
  have hW' := hW
  obtain ⟨p, q, hA0, hV, rfl, -, -⟩ := hW
  have hA : DataW.TrodAll enc Tryd.prog W 0 (fun _ => true) true Tryd.f4.params.toList args.toList ds p := hA0
  have hpar : Tryd.f4.params = #[30] := by kernel_rfl
  have hres : Tryd.f4.resultTypes = #[4] := by kernel_rfl
  rw [hpar] at hA hval
  obtain ⟨rfl, rfl⟩ := trodVars_none hV
  have hlt : ∀ x ∈ p, x.block < W.heap.size := fun x hx => by simpa using hW'.lt x (by simp [hx])
  have hkeep : ∀ (W' : World) (sp : Nat → Bool), Below W.heap.size W W' → (∀ x ∈ p, sp x.block = true) → DataW.TrodAll enc Tryd.prog W' 0 sp true Tryd.f4.params.toList args.toList ds p := fun W' sp hb hsp =>
    trodAll_stays q2 hb sp (by kernel_rfl) hA0 hlt hsp
  obtain ⟨v0, vs0, d0, ds0, p0, q0, ha0, hd0, hp0, h0, hr0⟩ := trodAll_cons hA
  obtain ⟨hvn, hdn, hpn⟩ := trodAll_nil hr0
  have hargs : args = #[v0] := by have e : args.toList = [v0] := (by rw [ha0, hvn]); exact Array.ext' e
  have hds : ds = [d0] := by rw [hd0, hdn]
  rw [hargs] at hval
  obtain ⟨fu0, t0⟩ := h0
  have w0 := hval 0 30 v0 rfl rfl
  obtain ⟨aa0, ll0, cc0, rfl⟩ := okWide_slice (e := 55) (by kernel_rfl) w0
  obtain ⟨l0, r0, g0⟩ := rdL_of (P := Tryd.prog) (α := LEdit) (by kernel_rfl) t0
  rw [hargs]
  refine (ok_laws_FnExactPatchText W _ l0 r0 true (law_PatchText l0 g0)).mono fun e W' he => ?_
  match e, he with
  | .returned v, ⟨hv, hst⟩ =>
    subst hv
    have hb := hst.below
    rw [hargs] at hW'
    refine ⟨_, rfl, post_below (pa := p) (pv := []) hW' (fun b sp hd => ?_) (fun sp hsp => ?_) (fun _ _ => by rw [hds]; rfl) rfl hb (fun j t r ht hr => ?_)⟩
    · rw [hres, List.append_nil, hds]
      exact trodAll_mk1 (shut_bool (by kernel_rfl) _)
    · have := hkeep W' sp hb (fun x hx => hsp x (by simp [hx]))
      rw [hargs] at this
      rw [List.append_nil, hds] at *
      exact this
    · rw [hres] at ht hr
      match j, ht, hr with
      | 0, ht, hr =>
        obtain rfl := Option.some.inj ht
        obtain rfl := Option.some.inj hr
        exact okWide_bool_mk (by kernel_rfl) _
theorem l10_PatchText : (Rows.fnExactPatchTextRow.inPlace == Tryd.prog.inPlace 4) = true := by kernel_rfl
theorem l11_PatchText : (Rows.fnExactPatchTextRow.unfollowed == Tryd.prog.unfollowed 4) = true := by kernel_rfl
theorem l12_PatchText : (Rows.fnExactPatchTextRow.recurses == Tryd.prog.recurses 4) = true := by kernel_rfl
theorem l13_PatchText : (Rows.fnExactPatchTextRow.named == Tryd.prog.varsNamed 4) = true := by kernel_rfl
theorem joined_PatchText : joinedFacts Tryd.prog 4 Tryd.f4 Rows.fnExactPatchTextSpec Rows.fnExactPatchTextRow = true :=
  joined_of (by kernel_rfl) q2 q3 (by kernel_rfl) (by kernel_rfl) (by kernel_rfl) q7 (by kernel_rfl) q9 l10_PatchText l11_PatchText l12_PatchText l13_PatchText (by kernel_rfl) (by kernel_rfl) (by kernel_rfl) (by kernel_rfl) (by kernel_rfl) (by kernel_rfl) (by kernel_rfl) (by kernel_rfl) (by kernel_rfl) q23 (by kernel_rfl) q25 q26 q27 q28 (by kernel_rfl) (by kernel_rfl) (by kernel_rfl) (by kernel_rfl)
theorem named_PatchText : Tryd.prog.funcNamed Rows.fnExactPatchTextRow.func = some 4 := by kernel_rfl
theorem inst_PatchText : Tryd.f4.isInstance Tryd.prog Rows.fnExactPatchTextRow.origin Rows.fnExactPatchTextRow.targs := of_decide_eq_true (by kernel_rfl)
theorem wrap_PatchText : Tryd.f4.isWrapper Tryd.prog Rows.fnExactPatchTextRow.wrapper Rows.fnExactPatchTextRow.mainSum := by unfold Func.isWrapper; first | (rw [if_pos (by decide +kernel)]; kernel_rfl) | (rw [if_neg (by decide +kernel)]; exact ⟨rfl, rfl⟩)
theorem fnExactPatchText_row : Rows.FnExactPatchTextSaid :=
  OpenClaim.holds_of_wide 4 Tryd.f4 rfl rfl rfl rfl rfl rfl rfl ⟨rfl, rfl, rfl, rfl, rfl⟩ rfl rfl rfl rfl rfl named_PatchText Tryd.func4 joined_PatchText inst_PatchText wrap_PatchText
    (fun os started H enc _ => lifted_PatchText os started H enc)
theorem fnExactPatchText_holds : Rows.FnExactPatchTextCardSaid :=
  Claim7.holds_tied_plain_at .later [] [.data, .data, .data] true (true, "328c5b6b2b0ec3ffc8af98987861f5a553b94f7085f389b069ddf0dbcf72e9b0") true
    fnExactPatchText_row (fun _ h => by cases h) (by kernel_rfl) (fun _ h => by cases h) fnExactPatchText_row_tie rfl ⟨rfl, rfl⟩ (by kernel_rfl) rfl
    (fun f fn hf hfn => by
      obtain rfl : f = 4 := Option.some.inj (named_PatchText.symm.trans hf) |>.symm
      obtain rfl : fn = Tryd.f4 := (Option.some.inj (Tryd.func4.symm.trans hfn)).symm
      exact ⟨by kernel_rfl, fun j t ht => by
        have hpar : Tryd.f4.params = #[30] := by kernel_rfl
        rw [hpar] at ht
        have hm : t ∈ [30] := by simpa using Array.mem_of_getElem? ht
        have hall : ([30].all fun u => !Tryd.prog.wantsStandIn u) = true := by kernel_rfl
        exact (show Tryd.prog.wantsStandIn t = false by simpa using List.all_eq_true.1 hall t hm)⟩)
    (by kernel_rfl)
end Go.Proofs.YthgmjhiccdjboaaDoor
