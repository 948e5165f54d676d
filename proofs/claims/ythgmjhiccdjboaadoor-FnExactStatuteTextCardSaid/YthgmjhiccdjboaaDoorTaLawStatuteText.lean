/- Proved here: the given statement FnExactStatuteTextCardSaid: the law FnExactStatuteText answers true, for every input that its row takes, and does no more than the row allows. The package variables that it reads are tied by the given Tie and Cards texts. Conditions: none beyond the row. The text is printed by a program of mine: the walk (..Walk texts) meets the pure part (..Laws texts). -/
import Derived.Test.YthgmjhiccdjboaaDoorRows
import Derived.ProofKit
import Derived.Test.YthgmjhiccdjboaaDoorTaWalk2
import Derived.Test.YthgmjhiccdjboaaDoorTaLaws1
import Derived.Test.YthgmjhiccdjboaaDoorTaFacts
import Derived.Test.YthgmjhiccdjboaaDoorTie
import Derived.Test.YthgmjhiccdjboaaDoorCards
import Derived.LaidMore
import Derived.Stop.Joined
import Derived.SevenTiedAt
namespace Go.FX
open Go Go.GL Go.RowKit Go.Proofs
instance : RD Tryd.prog Int := ⟨InR, fun h => by obtain ⟨n, rfl, -, hw⟩ := DataW.trod_int (k := .i64) (by kernel_rfl) h; exact ⟨n, ⟨rfl, trivial⟩, wf_inR hw⟩⟩
instance : RD Tryd.prog Bytes := ⟨fun x => x.length ≤ maxLen, fun h => by obtain ⟨s, rfl, -, hs⟩ := DataW.trod_string (by kernel_rfl) h; exact ⟨s.data.toList, ⟨congrArg (fun z => [Value.string z]) (BS_of s), trivial⟩, by rw [Array.length_toList]; exact hs⟩⟩
instance : RD Tryd.prog LArticle where
  good := fun x => InR x.fId ∧ x.fText.length ≤ maxLen
  of := fun {H enc w base spare held fuel cs x} h => by
    obtain ⟨hl, hf⟩ := trod_ft (n := 2) (L := [(0, 2), (1, 9)]) (by kernel_rfl) h
    match cs, hl with
    | [c0, c1], _ =>
      obtain ⟨y0, m0, e0⟩ := hf 0 0 2 c0 rfl rfl
      obtain ⟨x0, g0, k0⟩ := RD.of (P := Tryd.prog) (α := Int) e0
      obtain rfl := (List.cons.inj g0.1).1
      obtain ⟨y1, m1, e1⟩ := hf 1 1 9 c1 rfl rfl
      obtain ⟨x1, g1, k1⟩ := RD.of (P := Tryd.prog) (α := Bytes) e1
      obtain rfl := (List.cons.inj g1.1).1
      exact ⟨⟨x0, x1⟩, ⟨rfl, trivial⟩, k0, k1⟩
instance : RD Tryd.prog ((List LArticle)) := RD.list (by kernel_rfl) (fun h => h)
end Go.FX
namespace Go.Proofs.YthgmjhiccdjboaaDoor
open Go Go.GL Go.RowKit Go.WideShapes Go.ChangeShapes Go.Deep Go.Proofs.YthgmjhiccdjboaaDoor Go.FX

set_option maxRecDepth 100000
theorem door_StatuteText (os : Os) (args : Array Value) : laidMetH Tryd.prog Rows.fnExactStatuteTextRow.laid ((World.doorLaid Tryd.prog 400 os).forCall (fun _ _ => 0) ⟨#[], args, []⟩).memory :=
  laidMetH_of_parts3 (fuel := 8) (laidMet_of_run' 8 (by kernel_rfl) (by kernel_rfl)) (by kernel_rfl) (by kernel_rfl)
theorem lifted_StatuteText (os : Os) (started : os.Started) (H : Type) (enc : TypeId × Value → H) :
    ReturnsInHanded {} Tryd.checked os 3 .any (fun w args => (Rows.fnExactStatuteTextSpec.pre enc Tryd.prog Tryd.f3 [] false w args ∧ laidMetH Tryd.prog Rows.fnExactStatuteTextRow.laid w) ∧ sizedMet enc Tryd.prog Tryd.f3 (OpenSpec.ofChange Rows.fnExactStatuteTextSpec) false w args) (Rows.fnExactStatuteTextSpec.post enc Tryd.prog Tryd.f3 false true false false) := by
  refine returnsInHanded_of_change_and (C := Tryd.checked) (X := fun w _ => laidMetH Tryd.prog Rows.fnExactStatuteTextRow.laid w) (fun _ _ _ hh h => h.of_heap hh) q_own started (by kernel_rfl) Tryd.func3
    (ChangeSpec.witness_shaped (enc := enc) (C := Tryd.checked) (os := os) (X := fun w _ => laidMetH Tryd.prog Rows.fnExactStatuteTextRow.laid w) false (World.doorLaid Tryd.prog 400 os) #[.slice none 0 0] 8 rfl (World.shaped_of_RefB (by kernel_rfl) (by kernel_rfl)) (by kernel_rfl) (by kernel_rfl) (by kernel_rfl) (door_StatuteText os _)) ?_
  intro W base args ds gs before hval0 hW _ _ _ _
  have hval : ∀ (j : Nat) t v, Tryd.f3.params[j]? = some t → args[j]? = some v → Value.okWide Tryd.prog W .any base t v := hval0
  have hW' := hW
  obtain ⟨p, q, hA0, hV, rfl, -, -⟩ := hW
  have hA : DataW.TrodAll enc Tryd.prog W 0 (fun _ => true) true Tryd.f3.params.toList args.toList ds p := hA0
  have hpar : Tryd.f3.params = #[22] := by kernel_rfl
  have hres : Tryd.f3.resultTypes = #[4] := by kernel_rfl
  rw [hpar] at hA hval
  obtain ⟨rfl, rfl⟩ := trodVars_none hV
  have hlt : ∀ x ∈ p, x.block < W.heap.size := fun x hx => by simpa using hW'.lt x (by simp [hx])
  have hkeep : ∀ (W' : World) (sp : Nat → Bool), Below W.heap.size W W' → (∀ x ∈ p, sp x.block = true) → DataW.TrodAll enc Tryd.prog W' 0 sp true Tryd.f3.params.toList args.toList ds p := fun W' sp hb hsp =>
    trodAll_stays q2 hb sp (by kernel_rfl) hA0 hlt hsp
  obtain ⟨v0, vs0, d0, ds0, p0, q0, ha0, hd0, hp0, h0, hr0⟩ := trodAll_cons hA
  obtain ⟨hvn, hdn, hpn⟩ := trodAll_nil hr0
  have hargs : args = #[v0] := by have e : args.toList = [v0] := (by rw [ha0, hvn]); exact Array.ext' e
  have hds : ds = [d0] := by rw [hd0, hdn]
  rw [hargs] at hval
  obtain ⟨fu0, t0⟩ := h0
  have w0 := hval 0 22 v0 rfl rfl
  obtain ⟨aa0, ll0, cc0, rfl⟩ := okWide_slice (e := 46) (by kernel_rfl) w0
  obtain ⟨l0, r0, g0⟩ := rdL_of (P := Tryd.prog) (α := LArticle) (by kernel_rfl) t0
  rw [hargs]
  refine (ok_laws_FnExactStatuteText W _ l0 r0 true (law_StatuteText l0 g0)).mono fun e W' he => ?_
  match e, he with
  | .returned v, ⟨hv, hst⟩ =>
    subst hv
    have hb := hst.below
    rw [hargs] at hW'
    refine ⟨_, rfl, post_below (pa := p) (pv := []) hW' (fun b sp hd => ?_) (fun sp hsp => ?_) (fun _ _ => by rw [hds]; rfl) rfl hb (fun j t r ht hr => ?_)⟩
    · rw [hres, List.append_nil, hds]
      exact trodAll_mk1 (shut_bool (by kernel_rfl) _)
    · have := hkeep W' sp hb (fun x hx => hsp x (by simp [hx]))
      rw [hargs] at this
      rw [List.append_nil, hds] at *
      exact this
    · rw [hres] at ht hr
      match j, ht, hr with
      | 0, ht, hr =>
        obtain rfl := Option.some.inj ht
        obtain rfl := Option.some.inj hr
        exact okWide_bool_mk (by kernel_rfl) _
theorem l10_StatuteText : (Rows.fnExactStatuteTextRow.inPlace == Tryd.prog.inPlace 3) = true := by kernel_rfl
theorem l11_StatuteText : (Rows.fnExactStatuteTextRow.unfollowed == Tryd.prog.unfollowed 3) = true := by kernel_rfl
theorem l12_StatuteText : (Rows.fnExactStatuteTextRow.recurses == Tryd.prog.recurses 3) = true := by kernel_rfl
theorem l13_StatuteText : (Rows.fnExactStatuteTextRow.named == Tryd.prog.varsNamed 3) = true := by kernel_rfl
theorem joined_StatuteText : joinedFacts Tryd.prog 3 Tryd.f3 Rows.fnExactStatuteTextSpec Rows.fnExactStatuteTextRow = true :=
  joined_of (by kernel_rfl) q2 q3 (by kernel_rfl) (by kernel_rfl) (by kernel_rfl) q7 (by kernel_rfl) q9 l10_StatuteText l11_StatuteText l12_StatuteText l13_StatuteText (by kernel_rfl) (by kernel_rfl) (by kernel_rfl) (by kernel_rfl) (by kernel_rfl) (by kernel_rfl) (by kernel_rfl) (by kernel_rfl) (by kernel_rfl) q23 (by kernel_rfl) q25 q26 q27 q28 (by kernel_rfl) (by kernel_rfl) (by kernel_rfl) (by kernel_rfl)
theorem named_StatuteText : Tryd.prog.funcNamed Rows.fnExactStatuteTextRow.func = some 3 := by kernel_rfl
theorem inst_StatuteText : Tryd.f3.isInstance Tryd.prog Rows.fnExactStatuteTextRow.origin Rows.fnExactStatuteTextRow.targs := of_decide_eq_true (by kernel_rfl)
theorem wrap_StatuteText : Tryd.f3.isWrapper Tryd.prog Rows.fnExactStatuteTextRow.wrapper Rows.fnExactStatuteTextRow.mainSum := by unfold Func.isWrapper; first | (rw [if_pos (by decide +kernel)]; kernel_rfl) | (rw [if_neg (by decide +kernel)]; exact ⟨rfl, rfl⟩)
theorem fnExactStatuteText_row : Rows.FnExactStatuteTextSaid :=
  OpenClaim.holds_of_wide 3 Tryd.f3 rfl rfl rfl rfl rfl rfl rfl ⟨rfl, rfl, rfl, rfl, rfl⟩ rfl rfl rfl rfl rfl named_StatuteText Tryd.func3 joined_StatuteText inst_StatuteText wrap_StatuteText
    (fun os started H enc _ => lifted_StatuteText os started H enc)
theorem fnExactStatuteText_holds : Rows.FnExactStatuteTextCardSaid :=
  Claim7.holds_tied_plain_at .later [] [.data, .data, .data] true (true, "328c5b6b2b0ec3ffc8af98987861f5a553b94f7085f389b069ddf0dbcf72e9b0") true
    fnExactStatuteText_row (fun _ h => by cases h) (by kernel_rfl) (fun _ h => by cases h) fnExactStatuteText_row_tie rfl ⟨rfl, rfl⟩ (by kernel_rfl) rfl
    (fun f fn hf hfn => by
      obtain rfl : f = 3 := Option.some.inj (named_StatuteText.symm.trans hf) |>.symm
      obtain rfl : fn = Tryd.f3 := (Option.some.inj (Tryd.func3.symm.trans hfn)).symm
      exact ⟨by kernel_rfl, fun j t ht => by
        have hpar : Tryd.f3.params = #[22] := by kernel_rfl
        rw [hpar] at ht
        have hm : t ∈ [22] := by simpa using Array.mem_of_getElem? ht
        have hall : ([22].all fun u => !Tryd.prog.wantsStandIn u) = true := by kernel_rfl
        exact (show Tryd.prog.wantsStandIn t = false by simpa using List.all_eq_true.1 hall t hm)⟩)
    (by kernel_rfl)
end Go.Proofs.YthgmjhiccdjboaaDoor
