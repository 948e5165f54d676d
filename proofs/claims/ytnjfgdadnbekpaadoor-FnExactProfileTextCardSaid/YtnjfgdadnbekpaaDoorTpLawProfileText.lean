/- Proved here: the given statement FnExactProfileTextCardSaid: the law FnExactProfileText answers true, for every input that its row takes, and does no more than the row allows. The package variables that it reads are tied by the given Tie and Cards texts. Conditions: none beyond the row. The text is printed by a program of mine: the walk (..Walk texts) meets the pure part (..Laws texts). -/
import Derived.Test.YtnjfgdadnbekpaaDoorRows
import Derived.ProofKit
import Derived.Test.YtnjfgdadnbekpaaDoorTpWalk1
import Derived.Test.YtnjfgdadnbekpaaDoorTpLaws8
import Derived.Test.YtnjfgdadnbekpaaDoorTpFacts
import Derived.Test.YtnjfgdadnbekpaaDoorTie
import Derived.Test.YtnjfgdadnbekpaaDoorCards
import Derived.LaidMore
import Derived.Stop.Joined
import Derived.SevenTiedAt
import Derived.LaidSub
import Derived.MakeChecks
import Derived.Lib.LaidTab
namespace Go.FX
open Go Go.GL Go.RowKit Go.Proofs
instance : RD Tryd.prog Int := ⟨InR, fun h => by obtain ⟨n, rfl, -, hw⟩ := DataW.trod_int (k := .i64) (by kernel_rfl) h; exact ⟨n, ⟨rfl, trivial⟩, wf_inR hw⟩⟩
instance : RD Tryd.prog ((List Int)) := RD.list (by kernel_rfl) (fun h => h)
instance : RD Tryd.prog ((List (List Int))) := RD.list (by kernel_rfl) (fun h => h)
instance : RD Tryd.prog LProfile where
  good := fun x => RD.good Tryd.prog x.fRankings ∧ RD.good Tryd.prog x.fWeights
  of := fun {H enc w base spare held fuel cs x} h => by
    obtain ⟨hl, hf⟩ := trod_ft (n := 2) (L := [(0, 22), (1, 23)]) (by kernel_rfl) h
    match cs, hl with
    | [c0, c1], _ =>
      obtain ⟨y0, m0, e0⟩ := hf 0 0 22 c0 rfl rfl
      obtain ⟨x0, g0, k0⟩ := RD.of (P := Tryd.prog) (α := (List (List Int))) e0
      obtain ⟨y1, m1, e1⟩ := hf 1 1 23 c1 rfl rfl
      obtain ⟨x1, g1, k1⟩ := RD.of (P := Tryd.prog) (α := (List Int)) e1
      exact ⟨⟨x0, x1⟩, ⟨_, _, rfl, g0, g1⟩, k0, k1⟩
end Go.FX
namespace Go.Proofs.YtnjfgdadnbekpaaDoor
open Go Go.GL Go.RowKit Go.WideShapes Go.ChangeShapes Go.Deep Go.Proofs.YtnjfgdadnbekpaaDoor Go.FX

set_option maxRecDepth 100000
theorem door_ProfileText (os : Os) (args : Array Value) : laidMetH Tryd.prog Rows.fnExactProfileTextRow.laid ((World.doorLaid Tryd.prog 400 os).forCall (fun _ _ => 0) ⟨#[], args, []⟩).memory :=
  laidMetH_of_parts3 (fuel := 8) (laidMet_of_run' 8 (by kernel_rfl) (by kernel_rfl)) (by kernel_rfl) (by kernel_rfl)
theorem lifted_ProfileText (os : Os) (started : os.Started) (H : Type) (enc : TypeId × Value → H) :
    ReturnsInHanded {} Tryd.checked os 3 .any (fun w args => (Rows.fnExactProfileTextSpec.pre enc Tryd.prog Tryd.f3 [] false w args ∧ laidMetH Tryd.prog Rows.fnExactProfileTextRow.laid w) ∧ sizedMet enc Tryd.prog Tryd.f3 (OpenSpec.ofChange Rows.fnExactProfileTextSpec) false w args) (Rows.fnExactProfileTextSpec.post enc Tryd.prog Tryd.f3 false true false false) := by
  refine returnsInHanded_of_change_and (C := Tryd.checked) (X := fun w _ => laidMetH Tryd.prog Rows.fnExactProfileTextRow.laid w) (fun _ _ _ hh h => h.of_heap hh) q_own started (by kernel_rfl) Tryd.func3
    (ChangeSpec.witness_shaped (enc := enc) (C := Tryd.checked) (os := os) (X := fun w _ => laidMetH Tryd.prog Rows.fnExactProfileTextRow.laid w) false (World.doorLaid Tryd.prog 400 os) #[.agg #[.slice none 0 0, .slice none 0 0]] 8 rfl (World.shaped_of_RefB (by kernel_rfl) (by kernel_rfl)) (by kernel_rfl) (by kernel_rfl) (by kernel_rfl) (door_ProfileText os _)) ?_
  intro W base args ds gs before hval0 hW _ _ hLd _
  have hval : ∀ (j : Nat) t v, Tryd.f3.params[j]? = some t → args[j]? = some v → Value.okWide Tryd.prog W .any base t v := hval0
  have hW' := hW
  obtain ⟨p, q, hA0, hV, rfl, -, -⟩ := hW
  have hA : DataW.TrodAll enc Tryd.prog W 0 (fun _ => true) true Tryd.f3.params.toList args.toList ds p := hA0
  have hpar : Tryd.f3.params = #[25] := by kernel_rfl
  have hres : Tryd.f3.resultTypes = #[4] := by kernel_rfl
  rw [hpar] at hA hval
  obtain ⟨rfl, rfl⟩ := trodVars_none hV
  have hlt : ∀ x ∈ p, x.block < W.heap.size := fun x hx => by simpa using hW'.lt x (by simp [hx])
  have hkeep : ∀ (W' : World) (sp : Nat → Bool), Below W.heap.size W W' → (∀ x ∈ p, sp x.block = true) → DataW.TrodAll enc Tryd.prog W' 0 sp true Tryd.f3.params.toList args.toList ds p := fun W' sp hb hsp =>
    trodAll_stays q2 hb sp (by kernel_rfl) hA0 hlt hsp
  obtain ⟨v0, vs0, d0, ds0, p0, q0, ha0, hd0, hp0, h0, hr0⟩ := trodAll_cons hA
  obtain ⟨hvn, hdn, hpn⟩ := trodAll_nil hr0
  have hargs : args = #[v0] := by have e : args.toList = [v0] := (by rw [ha0, hvn]); exact Array.ext' e
  have hds : ds = [d0] := by rw [hd0, hdn]
  rw [hargs] at hval
  obtain ⟨fu0, t0⟩ := h0
  have w0 := hval 0 25 v0 rfl rfl
  obtain ⟨cs0, rfl⟩ := okWide_ft (n := 2) (L := [(0, 22), (1, 23)]) (by kernel_rfl) w0
  obtain ⟨l0, r0, g0⟩ := RD.of (P := Tryd.prog) (α := LProfile) t0
  obtain ⟨x0_0, x0_1, e0, s0_0, s0_1⟩ := r0
  obtain rfl : cs0 = #[x0_0, x0_1] := Array.ext' e0
  have hT : Go.Lib.TabIs Tryd.prog W "internal/strconv.uint64pow10" .u64 Go.Lib.pow10Tab := by
    have h1 := laidMetH.filter (fun x => x.1 == "internal/strconv.uint64pow10") hLd
    have e : (Rows.fnExactProfileTextRow.laid.filter fun x => x.1 == "internal/strconv.uint64pow10") = [("internal/strconv.uint64pow10", Go.Lib.tabData .u64 Go.Lib.pow10Tab)] := by kernel_rfl
    rw [e, MakeChecks.laidMetH_plain _ _ _ (by kernel_rfl)] at h1
    exact Go.Lib.tabIs_of_head (g := 1) (t := 135) (e := 107) (n := 20) (by kernel_rfl) (by kernel_rfl) (by kernel_rfl) (by kernel_rfl) (by kernel_rfl) (by kernel_rfl) h1
  rw [hargs]
  refine (ok_laws_FnExactProfileText W hT l0 x0_0 s0_0 x0_1 s0_1 true (law_ProfileText l0 g0)).mono fun e W' he => ?_
  match e, he with
  | .returned v, ⟨hv, hst⟩ =>
    subst hv
    have hb := hst.below
    rw [hargs] at hW'
    refine ⟨_, rfl, post_below (pa := p) (pv := []) hW' (fun b sp hd => ?_) (fun sp hsp => ?_) (fun _ _ => by rw [hds]; rfl) rfl hb (fun j t r ht hr => ?_)⟩
    · rw [hres, List.append_nil, hds]
      exact trodAll_mk1 (shut_bool (by kernel_rfl) _)
    · have := hkeep W' sp hb (fun x hx => hsp x (by simp [hx]))
      rw [hargs] at this
      rw [List.append_nil, hds] at *
      exact this
    · rw [hres] at ht hr
      match j, ht, hr with
      | 0, ht, hr =>
        obtain rfl := Option.some.inj ht
        obtain rfl := Option.some.inj hr
        exact okWide_bool_mk (by kernel_rfl) _
theorem l10_ProfileText : (Rows.fnExactProfileTextRow.inPlace == Tryd.prog.inPlace 3) = true := by kernel_rfl
theorem l11_ProfileText : (Rows.fnExactProfileTextRow.unfollowed == Tryd.prog.unfollowed 3) = true := by kernel_rfl
theorem l12_ProfileText : (Rows.fnExactProfileTextRow.recurses == Tryd.prog.recurses 3) = true := by kernel_rfl
theorem l13_ProfileText : (Rows.fnExactProfileTextRow.named == Tryd.prog.varsNamed 3) = true := by kernel_rfl
theorem joined_ProfileText : joinedFacts Tryd.prog 3 Tryd.f3 Rows.fnExactProfileTextSpec Rows.fnExactProfileTextRow = true :=
  joined_of (by kernel_rfl) q2 q3 (by kernel_rfl) (by kernel_rfl) (by kernel_rfl) q7 (by kernel_rfl) q9 l10_ProfileText l11_ProfileText l12_ProfileText l13_ProfileText (by kernel_rfl) (by kernel_rfl) (by kernel_rfl) (by kernel_rfl) (by kernel_rfl) (by kernel_rfl) (by kernel_rfl) (by kernel_rfl) (by kernel_rfl) q23 (by kernel_rfl) q25 q26 q27 q28 (by kernel_rfl) (by kernel_rfl) (by kernel_rfl) (by kernel_rfl)
theorem named_ProfileText : Tryd.prog.funcNamed Rows.fnExactProfileTextRow.func = some 3 := by kernel_rfl
theorem inst_ProfileText : Tryd.f3.isInstance Tryd.prog Rows.fnExactProfileTextRow.origin Rows.fnExactProfileTextRow.targs := of_decide_eq_true (by kernel_rfl)
theorem wrap_ProfileText : Tryd.f3.isWrapper Tryd.prog Rows.fnExactProfileTextRow.wrapper Rows.fnExactProfileTextRow.mainSum := by unfold Func.isWrapper; first | (rw [if_pos (by decide +kernel)]; kernel_rfl) | (rw [if_neg (by decide +kernel)]; exact ⟨rfl, rfl⟩)
theorem fnExactProfileText_row : Rows.FnExactProfileTextSaid :=
  OpenClaim.holds_of_wide 3 Tryd.f3 rfl rfl rfl rfl rfl rfl rfl ⟨rfl, rfl, rfl, rfl, rfl⟩ rfl rfl rfl rfl rfl named_ProfileText Tryd.func3 joined_ProfileText inst_ProfileText wrap_ProfileText
    (fun os started H enc _ => lifted_ProfileText os started H enc)
theorem fnExactProfileText_holds : Rows.FnExactProfileTextCardSaid :=
  Claim7.holds_tied_plain_at .later [] [.data, .data, .data] true (true, "f71ce9107630d45bcf83b42411efde511b515ce6d7f9e527557c6e0cedb5e2c5") true
    fnExactProfileText_row (fun _ h => by cases h) (by kernel_rfl) (fun _ h => by cases h) fnExactProfileText_row_tie rfl ⟨rfl, rfl⟩ (by kernel_rfl) rfl
    (fun f fn hf hfn => by
      obtain rfl : f = 3 := Option.some.inj (named_ProfileText.symm.trans hf) |>.symm
      obtain rfl : fn = Tryd.f3 := (Option.some.inj (Tryd.func3.symm.trans hfn)).symm
      exact ⟨by kernel_rfl, fun j t ht => by
        have hpar : Tryd.f3.params = #[25] := by kernel_rfl
        rw [hpar] at ht
        have hm : t ∈ [25] := by simpa using Array.mem_of_getElem? ht
        have hall : ([25].all fun u => !Tryd.prog.wantsStandIn u) = true := by kernel_rfl
        exact (show Tryd.prog.wantsStandIn t = false by simpa using List.all_eq_true.1 hall t hm)⟩)
    (by kernel_rfl)
end Go.Proofs.YtnjfgdadnbekpaaDoor
