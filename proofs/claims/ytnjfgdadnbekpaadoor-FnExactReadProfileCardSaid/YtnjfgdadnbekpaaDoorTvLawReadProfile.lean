/- Proved here: the given statement FnExactReadProfileCardSaid: the law FnExactReadProfile answers true, for every input that its row takes, and does no more than the row allows. The package variables that it reads are tied by the given Tie and Cards texts. Conditions: none beyond the row. The text is printed by a program of mine: the walk (..Walk texts) meets the pure part (..Laws texts). -/
import Derived.Test.YtnjfgdadnbekpaaDoorRows
import Derived.ProofKit
import Derived.Test.YtnjfgdadnbekpaaDoorTvWalk2
import Derived.Test.YtnjfgdadnbekpaaDoorTvLaws13
import Derived.Test.YtnjfgdadnbekpaaDoorTvFacts
import Derived.Test.YtnjfgdadnbekpaaDoorTie
import Derived.Test.YtnjfgdadnbekpaaDoorCards
import Derived.LaidMore
import Derived.Stop.Joined
import Derived.SevenTiedAt
import Derived.LaidSub
import Derived.MakeChecks
import Derived.Lib.LaidTab
import Derived.Stop.LaidErr
import Derived.Lay
namespace Go.FX
open Go Go.GL Go.RowKit Go.Proofs
instance : RD Tryd.prog Bytes := ⟨fun x => x.length ≤ maxLen, fun h => by obtain ⟨s, rfl, -, hs⟩ := DataW.trod_string (by kernel_rfl) h; exact ⟨s.data.toList, ⟨congrArg (fun z => [Value.string z]) (BS_of s), trivial⟩, by rw [Array.length_toList]; exact hs⟩⟩
end Go.FX
namespace Go.Proofs.YtnjfgdadnbekpaaDoor
open Go Go.GL Go.RowKit Go.WideShapes Go.ChangeShapes Go.Deep Go.Proofs.YtnjfgdadnbekpaaDoor Go.FX

set_option maxRecDepth 100000
theorem star_ReadProfile : "*" ++ "errors.errorString" = "*errors.errorString" := by decide
theorem rowE_ReadProfile (u : TypeId) (h : Tryd.prog.typeName? 3 u = some "*errors.errorString") : u = 157 :=
  typeName_ptr_named (nm := "errors.errorString") (by rw [star_ReadProfile]; kernel_rfl) (by kernel_rfl) (by decide) u (by rw [star_ReadProfile]; exact h)
theorem var1_ReadProfile (W : World) (hLd : laidMetH Tryd.prog Rows.fnExactReadProfileRow.laid W) (n : String) (g : Nat) (text : List UInt8) (e : (Rows.fnExactReadProfileRow.laid.filter fun x => x.1 == n) = [(n, .iface "*errors.errorString" (.ptr (.agg [.lit (.string text)])))])
    (hg : Tryd.prog.globalNamed n = some g) (ht : (Tryd.prog.globals[g]?).map (·.type) = some 82) : ∃ t p, W.var? Tryd.prog n = some #[.iface t p] := by
  have h1 := laidMetH.filter (fun x => x.1 == n) hLd
  rw [e, MakeChecks.laidMetH_plain _ _ _ rfl] at h1
  obtain ⟨a, s, h, -⟩ := laid_sentinel (tp := 157) (te := 159) (ts := 9) h1 hg ht Tryd.underlying82 rowE_ReadProfile Tryd.underlying157 Tryd.underlying159 rfl rfl Tryd.underlying9 (by kernel_rfl) (by kernel_rfl)
  exact ⟨_, _, h⟩
theorem errv_ReadProfile (W : World) (hLd : laidMetH Tryd.prog Rows.fnExactReadProfileRow.laid W) : ErrVars Tryd.prog W :=
  ⟨var1_ReadProfile W hLd "strconv.ErrSyntax" 2 [105, 110, 118, 97, 108, 105, 100, 32, 115, 121, 110, 116, 97, 120] (by kernel_rfl) (by kernel_rfl) (by kernel_rfl), var1_ReadProfile W hLd "strconv.ErrRange" 3 [118, 97, 108, 117, 101, 32, 111, 117, 116, 32, 111, 102, 32, 114, 97, 110, 103, 101] (by kernel_rfl) (by kernel_rfl) (by kernel_rfl)⟩
theorem door_ReadProfile (os : Os) (args : Array Value) : laidMetH Tryd.prog Rows.fnExactReadProfileRow.laid ((World.laidAll Tryd.prog os Rows.fnExactReadProfileRow.laid).forCall (fun _ _ => 0) ⟨#[], args, []⟩).memory :=
  by rw [MakeChecks.laidMetH_plain _ _ _ (by kernel_rfl)]; exact laidMet_laidAll _ (by kernel_rfl) (by kernel_rfl)
theorem lifted_ReadProfile (os : Os) (started : os.Started) (H : Type) (enc : TypeId × Value → H) :
    ReturnsInHanded {} Tryd.checked os 4 .any (fun w args => (Rows.fnExactReadProfileSpec.pre enc Tryd.prog Tryd.f4 [] false w args ∧ laidMetH Tryd.prog Rows.fnExactReadProfileRow.laid w) ∧ sizedMet enc Tryd.prog Tryd.f4 (OpenSpec.ofChange Rows.fnExactReadProfileSpec) false w args) (Rows.fnExactReadProfileSpec.post enc Tryd.prog Tryd.f4 false true false false) := by
  refine returnsInHanded_of_change_and (C := Tryd.checked) (X := fun w _ => laidMetH Tryd.prog Rows.fnExactReadProfileRow.laid w) (fun _ _ _ hh h => h.of_heap hh) q_own started (by kernel_rfl) Tryd.func4
    (ChangeSpec.witness_shaped (enc := enc) (C := Tryd.checked) (os := os) (X := fun w _ => laidMetH Tryd.prog Rows.fnExactReadProfileRow.laid w) false (World.laidAll Tryd.prog os Rows.fnExactReadProfileRow.laid) #[.string ⟨#[]⟩] 8 (World.laidAll_os _ _ _) (World.shaped_of_ZipB (by kernel_rfl) (by kernel_rfl)) (by kernel_rfl) (by kernel_rfl) (by kernel_rfl) (door_ReadProfile os _)) ?_
  intro W base args ds gs before hval0 hW _ _ hLd _
  have hval : ∀ (j : Nat) t v, Tryd.f4.params[j]? = some t → args[j]? = some v → Value.okWide Tryd.prog W .any base t v := hval0
  have hW' := hW
  obtain ⟨p, q, hA0, hV, rfl, -, -⟩ := hW
  have hA : DataW.TrodAll enc Tryd.prog W 0 (fun _ => true) true Tryd.f4.params.toList args.toList ds p := hA0
  have hpar : Tryd.f4.params = #[9] := by kernel_rfl
  have hres : Tryd.f4.resultTypes = #[4] := by kernel_rfl
  rw [hpar] at hA hval
  obtain ⟨rfl, rfl⟩ := trodVars_none hV
  have hlt : ∀ x ∈ p, x.block < W.heap.size := fun x hx => by simpa using hW'.lt x (by simp [hx])
  have hkeep : ∀ (W' : World) (sp : Nat → Bool), Below W.heap.size W W' → (∀ x ∈ p, sp x.block = true) → DataW.TrodAll enc Tryd.prog W' 0 sp true Tryd.f4.params.toList args.toList ds p := fun W' sp hb hsp =>
    trodAll_stays q2 hb sp (by kernel_rfl) hA0 hlt hsp
  obtain ⟨v0, vs0, d0, ds0, p0, q0, ha0, hd0, hp0, h0, hr0⟩ := trodAll_cons hA
  obtain ⟨hvn, hdn, hpn⟩ := trodAll_nil hr0
  have hargs : args = #[v0] := by have e : args.toList = [v0] := (by rw [ha0, hvn]); exact Array.ext' e
  have hds : ds = [d0] := by rw [hd0, hdn]
  rw [hargs] at hval
  obtain ⟨fu0, t0⟩ := h0
  have w0 := hval 0 9 v0 rfl rfl
  obtain ⟨l0, r0, g0⟩ := RD.of (P := Tryd.prog) (α := Bytes) t0
  obtain ⟨s0, rfl⟩ := okWide_string (by kernel_rfl) w0
  obtain rfl : s0 = BS l0 := by have := r0.1; simpa [Value.cells] using this
  have hT : Go.Lib.TabIs Tryd.prog W "internal/strconv.uint64pow10" .u64 Go.Lib.pow10Tab := by
    have h1 := laidMetH.filter (fun x => x.1 == "internal/strconv.uint64pow10") hLd
    have e : (Rows.fnExactReadProfileRow.laid.filter fun x => x.1 == "internal/strconv.uint64pow10") = [("internal/strconv.uint64pow10", Go.Lib.tabData .u64 Go.Lib.pow10Tab)] := by kernel_rfl
    rw [e, MakeChecks.laidMetH_plain _ _ _ (by kernel_rfl)] at h1
    exact Go.Lib.tabIs_of_head (g := 1) (t := 135) (e := 107) (n := 20) (by kernel_rfl) (by kernel_rfl) (by kernel_rfl) (by kernel_rfl) (by kernel_rfl) (by kernel_rfl) h1
  rw [hargs]
  have hV : ErrVars Tryd.prog W := errv_ReadProfile W hLd
  refine (ok_laws_FnExactReadProfile W hT hV l0 true (law_ReadProfile l0 g0)).mono fun e W' he => ?_
  match e, he with
  | .returned v, ⟨hv, hst⟩ =>
    subst hv
    have hb := hst.below
    rw [hargs] at hW'
    refine ⟨_, rfl, post_below (pa := p) (pv := []) hW' (fun b sp hd => ?_) (fun sp hsp => ?_) (fun _ _ => by rw [hds]; rfl) rfl hb (fun j t r ht hr => ?_)⟩
    · rw [hres, List.append_nil, hds]
      exact trodAll_mk1 (shut_bool (by kernel_rfl) _)
    · have := hkeep W' sp hb (fun x hx => hsp x (by simp [hx]))
      rw [hargs] at this
      rw [List.append_nil, hds] at *
      exact this
    · rw [hres] at ht hr
      match j, ht, hr with
      | 0, ht, hr =>
        obtain rfl := Option.some.inj ht
        obtain rfl := Option.some.inj hr
        exact okWide_bool_mk (by kernel_rfl) _
theorem l10_ReadProfile : (Rows.fnExactReadProfileRow.inPlace == Tryd.prog.inPlace 4) = true := by kernel_rfl
theorem l11_ReadProfile : (Rows.fnExactReadProfileRow.unfollowed == Tryd.prog.unfollowed 4) = true := by kernel_rfl
theorem l12_ReadProfile : (Rows.fnExactReadProfileRow.recurses == Tryd.prog.recurses 4) = true := by kernel_rfl
theorem l13_ReadProfile : (Rows.fnExactReadProfileRow.named == Tryd.prog.varsNamed 4) = true := by kernel_rfl
theorem joined_ReadProfile : joinedFacts Tryd.prog 4 Tryd.f4 Rows.fnExactReadProfileSpec Rows.fnExactReadProfileRow = true :=
  joined_of (by kernel_rfl) q2 q3 (by kernel_rfl) (by kernel_rfl) (by kernel_rfl) q7 (by kernel_rfl) q9 l10_ReadProfile l11_ReadProfile l12_ReadProfile l13_ReadProfile (by kernel_rfl) (by kernel_rfl) (by kernel_rfl) (by kernel_rfl) (by kernel_rfl) (by kernel_rfl) (by kernel_rfl) (by kernel_rfl) (by kernel_rfl) q23 (by kernel_rfl) q25 q26 q27 q28 (by kernel_rfl) (by kernel_rfl) (by kernel_rfl) (by kernel_rfl)
theorem named_ReadProfile : Tryd.prog.funcNamed Rows.fnExactReadProfileRow.func = some 4 := by kernel_rfl
theorem inst_ReadProfile : Tryd.f4.isInstance Tryd.prog Rows.fnExactReadProfileRow.origin Rows.fnExactReadProfileRow.targs := of_decide_eq_true (by kernel_rfl)
theorem wrap_ReadProfile : Tryd.f4.isWrapper Tryd.prog Rows.fnExactReadProfileRow.wrapper Rows.fnExactReadProfileRow.mainSum := by unfold Func.isWrapper; first | (rw [if_pos (by decide +kernel)]; kernel_rfl) | (rw [if_neg (by decide +kernel)]; exact ⟨rfl, rfl⟩)
theorem fnExactReadProfile_row : Rows.FnExactReadProfileSaid :=
  OpenClaim.holds_of_wide 4 Tryd.f4 rfl rfl rfl rfl rfl rfl rfl ⟨rfl, rfl, rfl, rfl, rfl⟩ rfl rfl rfl rfl rfl named_ReadProfile Tryd.func4 joined_ReadProfile inst_ReadProfile wrap_ReadProfile
    (fun os started H enc _ => lifted_ReadProfile os started H enc)
theorem fnExactReadProfile_holds : Rows.FnExactReadProfileCardSaid :=
  Claim7.holds_tied_plain_at .later [] [.data, .data, .data, .data, .sentinel, .sentinel, .pinned] true (true, "f71ce9107630d45bcf83b42411efde511b515ce6d7f9e527557c6e0cedb5e2c5") true
    fnExactReadProfile_row (fun _ h => by cases h) (by kernel_rfl) (fun _ h => by cases h) fnExactReadProfile_row_tie rfl ⟨rfl, rfl⟩ (by kernel_rfl) rfl
    (fun f fn hf hfn => by
      obtain rfl : f = 4 := Option.some.inj (named_ReadProfile.symm.trans hf) |>.symm
      obtain rfl : fn = Tryd.f4 := (Option.some.inj (Tryd.func4.symm.trans hfn)).symm
      exact ⟨by kernel_rfl, fun j t ht => by
        have hpar : Tryd.f4.params = #[9] := by kernel_rfl
        rw [hpar] at ht
        have hm : t ∈ [9] := by simpa using Array.mem_of_getElem? ht
        have hall : ([9].all fun u => !Tryd.prog.wantsStandIn u) = true := by kernel_rfl
        exact (show Tryd.prog.wantsStandIn t = false by simpa using List.all_eq_true.1 hall t hm)⟩)
    (by kernel_rfl)
end Go.Proofs.YtnjfgdadnbekpaaDoor
